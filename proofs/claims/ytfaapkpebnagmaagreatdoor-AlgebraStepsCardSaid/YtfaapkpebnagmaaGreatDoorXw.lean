/- Texts of the proof, one behind the other: Yi, Yj, Yk, Yl, Ym, Yn, Yo, Yr, Ys, Yt. -/
import Derived.Test.YtfaapkpebnagmaaGreatDoorXv
namespace Go.Proofs.YtfaapkpebnagmaaGreatDoor
open _root_.Go.Proofs.Tryz
open Go.RowKit Go
set_option linter.unusedVariables false
set_option maxRecDepth 100000
set_option maxHeartbeats 400000000
variable {w w' : World} {ts : List Tm} {ss sa sc sb' : List ByteArray} {room : Int} {B sb g len c b db rd : Nat} {ls : Nat → List Edge} {rev r1 r2 : Bool} {vt v6 : Value} {r : Nat → Value} {x y u x1 y1 u1 x2 y2 u2 : ByteArray} {ra rb : List (List Int)} {t : Tm} {a : Option Addr}
def iA (s : ByteArray) (w : World) (e : Ending) (w' : World) : Prop :=
 ∃ (A : Option Addr) (c : Nat),e = .returned (.tuple #[.slice A (dE s).1.length c,.bool (dE s).2]) ∧ w'.ownsRow w.heap.size 3 1 (.slice A (dE s).1.length c) (dE s).1.length ((dE s).1.map (.int .i64)) ∧ (dE s).1.length ≤ s.size ∧ Fr (fun _ => False) w w'
theorem ow (s : ByteArray) (w : World) (hs : s.size ≤ 4096) : Calls prog 121 #[.string s] w (iA s w) := by
 obtain ⟨i3,hi3,hz30,hz31,hz32⟩ := info_parts info3;obtain ⟨rs,hrs⟩ : ∃ rs,rs = dE s := ⟨_,rfl⟩;unfold iA;rw [← hrs];unfold dE at hrs;have HR0 := Hd hrs;clear hrs;go_enter func121,ntmps121;go_wp2_with fail
 go_loopw [4,5] (fun ov iv wr => ∃ (A : Option Addr) (c : Nat) (l : List Int) (i : Nat),ov = .slice A l.length c ∧ iv = .int .i64 (i : Int) ∧ i ≤ s.size ∧ l.length ≤ i ∧ wr.ownsRow w.heap.size 3 1 (.slice A l.length c) l.length (l.map (.int .i64)) ∧ Fr (fun j => w.heap.size ≤ j) w wr ∧ bO s i l = rs) (fun _ iv _ => s.size - (intOf iv).toNat)
 case atStart => exact ⟨none,0,[],0,rfl,rfl,Nat.zero_le _,Nat.le_refl _,World.ownsRow_nil _ _ _ _,Fr.refl _ _,HR0.symm⟩
 case round =>
  obtain ⟨A,c,l,i,rfl,rfl,hi,hli,hrow,hf,hsg⟩ := hrel;have HF := Hd hf;have HROW := Hd hrow;have hszf := hf.size;clear hf hrow;by_cases hlt : i < s.size
  · have hlt' : (i : Int) < (s.size : Int) := jj;rw [gH s i l hlt] at hsg;have hxs : (s.extract i s.size).size = s.size - i := by rw [ByteArray.size_extract]; omega
    have HFI := Hd (fun w => wm (s.extract i s.size) w jj jj);have hmm := rD (s.extract i s.size) jj;rw [hxs] at hmm;obtain ⟨n,m,hnm⟩ : ∃ n m,bC (s.extract i s.size) = (n,m) := ⟨_,_,rfl⟩;rw [hnm] at HFI hsg hmm;clear hnm hxs;dsimp only at hsg hmm;have HFI := Hd (show ∀ w,Calls prog 165 #[.string (s.extract i s.size)] w fun e w' => e = .returned (.tuple #[.int .i64 n,.int .i64 (m : Int)]) ∧ Fr (fun _ => False) w w' from HFI);by_cases hm0 : m = 0
    · subst hm0;have HX := Hd (show rs = (l,false) by rw [← hsg]; rfl);clear hsg;go_wp2_with fail;refine (HFI _).mono ?_;rintro e w1 ⟨rfl,hf1⟩;have HF1 := Hd hf1;clear hf1;go_wp2_with fail;go_ret2;have hr1 := aa HROW.out HF1.out ii;exact ⟨A,c,by rw [HX.out]; rfl,by rw [HX.out]; exact hr1,by rw [HX.out]; show l.length ≤ _; omega,(HF.trans HF1.out uu).shut (Nat.le_refl _)⟩
    · have hm0' : ((m : Int) == 0) = false := by simp [hm0]
      rw [if_neg hm0] at hsg;have HX := Hd hsg;have hm1 : 1 ≤ m := jj;clear hsg hm0;go_wp2_with fail;refine (HFI _).mono ?_;rintro e w1 ⟨rfl,hf1⟩;have hr1 := aa HROW.out hf1 ii;have hsz1 := hf1.size;have HF1 := Hd (HF.trans hf1 uu);clear hf1;go_wp2_with (at_builtin; refine wpList_append_own _ rfl _ _ 99 rfl w.heap.size 3 i3 _ 1 8 underlying99 hi3 hz30 hz31 hz32 rfl de _ l.length (l.map (.int .i64)) (by rfl) (hr1.alloc _) ⟨w1.heap.size,0,none⟩ 1 1 [.int .i64 n] (by rfl) rfl (World.news_of_block (heap_alloc_new w1 _)) (by intro u hu; rw [List.mem_singleton] at hu; rw [hu]; rfl) (by unfold maxLen; omega) jj (by simp; omega) ?_; intro v2 w2 hown2 hgr2; obtain ⟨A2,c2,hv2⟩ := ad hown2; subst hv2);have HF2 := Hd ((HF1.alloc (.cells #[.int .i64 n] 3)).grown hgr2 (fun k hk e => (World.ownsRow.lt hr1 k e).1));have HR2 := Hd hown2;clear hown2 hgr2 hr1;go_wp2_with fail;go_roundw
      case rel => exact ⟨A2,c2,l ++ [n],i + m,by simp,by go_num,by omega,by simp; omega,by simpa using HR2.out,HF2.out,HX.out⟩
      case measure => simp [intOf]; omega
  · have hge : (s.size : Int) ≤ (i : Int) := jj;have hnl : ¬ (i : Int) < (s.size : Int) := jj;rw [eM s i l hlt] at hsg;have HX := Hd hsg.symm;clear hsg hlt;go_wp2_with fail;go_ret2;exact ⟨A,c,by rw [HX.out]; rfl,by rw [HX.out]; exact HROW,by rw [HX.out]; show l.length ≤ _; omega,HF.shut (Nat.le_refl _)⟩
theorem rE (s : ByteArray) (w : World) (hs : s.size ≤ 4096) : Calls prog 120 #[.string s] w (IsB (oW s) w) := by
 obtain ⟨ri,hri⟩ : ∃ ri,ri = oW s := ⟨_,rfl⟩;rw [← hri];unfold oW at hri;rw [decide_eq_true hs,Bool.true_and] at hri;have HSI := Hd (ow s w hs);unfold iA at HSI;obtain ⟨l,ok,hlo⟩ : ∃ l ok,dE s = (l,ok) := ⟨_,_,rfl⟩;rw [hlo] at HSI hri;clear hlo;have HRI := Hd (show ri = (ok && bi l 0 (-1)) from hri);clear hri;have HSI := Hd (show Calls prog 121 #[.string s] w fun e w' => ∃ (A : Option Addr) (c : Nat),e = .returned (.tuple #[.slice A l.length c,.bool ok]) ∧ w'.ownsRow w.heap.size 3 1 (.slice A l.length c) l.length (l.map (.int .i64)) ∧ l.length ≤ s.size ∧ Fr (fun _ => False) w w' from HSI);cases ok with
 | false =>
  go_enter func120,ntmps120;go_wp2_with fail;refine HSI.mono ?_;rintro e w1 ⟨A,c,rfl,hrow,hll,hf⟩;have HF := Hd hf;clear hf hrow;go_wp2_with fail;go_ret;exact IsB.of HF (by rw [HRI.out]; rfl)
 | true =>
  have HRI := Hd (show ri = bi l 0 (-1) by rw [HRI.out]; rfl);go_enter func120,ntmps120;go_wp2_with fail;refine HSI.mono ?_;rintro e w1 ⟨A,c,rfl,hrow,hll,hf⟩;have HF := Hd hf;have HROW := Hd hrow;have hlb : (l.length : Int) ≤ 4096 := jj;clear hf hrow;go_wp2_with fail
  go_loopw [5,24] (fun cv iv wr => ∃ (colon : Int) (i : Nat),cv = .int .i64 colon ∧ iv = .int .i64 (i : Int) ∧ i ≤ l.length ∧ Fr (fun _ => False) w1 wr ∧ bi l i colon = ri) (fun _ iv _ => l.length - (intOf iv).toNat)
  case atStart => exact ⟨-1,0,rfl,rfl,Nat.zero_le _,Fr.refl _ _,HRI.symm⟩
  case round =>
   obtain ⟨colon,i,rfl,rfl,hi,hfr,hri⟩ := hrel;have HFE := Hd (HF.trans' hfr);by_cases hlt : i < l.length
   · have hlt' : (i : Int) < (l.length : Int) := jj;obtain ⟨g,hg,-,hgl,hgc⟩ := ar HROW.out jj;subst hg;have hrow := aa HROW.out hfr ii;have hck : wr.cell? ⟨g,i,none⟩ = some (.int .i64 (l.getD i 0)) := by
      rw [World.ownsRow.cellAt hrow i jj,List.getElem?_map,List.getD_eq_getElem?_getD];rw [List.getElem?_eq_getElem jj];rfl
     rw [dd l i colon hlt] at hri;generalize l.getD i 0 = n at *;have HCL := Hd (fun w => tz n w);have HFR := Hd hfr;have hszr := hfr.size;clear hrow hfr;generalize gp n = cl at *;by_cases h0 : cl = 0
     · subst h0;have HX := Hd (show ri = false by rw [← hri,if_pos (.inl rfl)]);clear hri;go_wp2_with fail;refine (HCL _).mono ?_;rintro e w2 ⟨rfl,rfl⟩;go_wp2_with fail;go_ret;exact IsB.of HFE (by rw [HX.out])
     · have h0' : (cl == 0) = false := by simp [h0]
       by_cases h4 : cl = 4
       · subst h4;have HX := Hd (show ri = false by rw [← hri,if_pos (.inr rfl)]);clear hri h0;go_wp2_with fail;refine (HCL _).mono ?_;rintro e w2 ⟨rfl,rfl⟩;go_wp2_with fail;go_ret;exact IsB.of HFE (by rw [HX.out])
       · have h4' : (cl == 4) = false := by simp [h4]
         rw [if_neg jj] at hri;clear h0 h4;have HRI2 := Hd hri;clear hri;go_wp2_with fail;refine (HCL _).mono ?_;rintro e w2 ⟨rfl,rfl⟩;obtain ⟨wo,rfl⟩ : ∃ wo,wo = wr := ⟨wr,rfl⟩;go_wp2_with fail
         go_loopw [9] (fun kv wi => ∃ (k : Nat),kv = .int .i64 (k : Int) ∧ k ≤ 9 ∧ Fr (fun _ => False) wo wi ∧ lF n k = lF n 0) (fun kv _ => 9 - (intOf kv).toNat)
         case atStart => exact ⟨0,rfl,Nat.zero_le _,Fr.refl _ _,rfl⟩
         case round =>
          obtain ⟨k,rfl,hk,hfi,hbd⟩ := hrel;have HFI := Hd hfi;have hck2 : wr.cell? ⟨g,i,none⟩ = some (.int .i64 n) := by
           have hrow := aa HROW (HFR.trans' hfi) ii;rw [← hck];unfold World.cell?;rw [hfi.block g jj id]
          clear hck hfi;by_cases hk9 : k < 9
          · have hk9' : (k : Int) < 9 := jj;have hkx : ∀ w : World,(Instr.index 9 (.string ⟨#[60,62,34,123,125,124,94,96,92]⟩) (.int .i64 (k : Int))).run prog w = .ok (.int .u8 (ae iY k)) w := ct (s := iY) (i := k) hk9;have hbl := fY iY k;rw [cA n k hk9] at hbd;generalize ae iY k = b at *;by_cases hb : n = b
            · subst hb;have HX := Hd (show ri = false by rw [← HRI2.out,← hbd]; simp);clear hbd;go_wp2_with fail
              go_quiet (fail);go_wp2_with fail;go_ret;exact IsB.of (HFE.trans' (HFI.drewN _)) (by rw [HX.out])
            · have hb' : (n == b) = false := by simp [hb]
              rw [hb'] at hbd;have HX := Hd hbd;clear hbd hb;go_wp2_with fail
              go_quiet (fail);go_wp2_with fail;go_roundw
              case rel => exact ⟨k + 1,by go_num,by omega,HFI.out.drewN _,by have h := HX.out; simpa using h⟩
              case measure => simp [intOf]; omega
          · have hk9' : (9 : Int) ≤ (k : Int) := jj;have hkn : ¬ (k : Int) < 9 := jj;rw [qs n k hk9] at hbd;have HX := Hd (show bi l (i + 1) (fD n i colon) = ri by rw [← HRI2.out,← hbd]; simp);clear hbd hk9;by_cases h58 : n = 58
            · subst h58;by_cases hc : colon < 0
              · have hc' : decide (colon < 0) = true := decide_eq_true hc;have HY := Hd (show bi l (i + 1) (i : Int) = ri by have h := HX.out; unfold fD at h; rw [if_pos ⟨rfl,hc⟩] at h; exact h);go_wp2_with fail;go_roundw
                case rel => exact ⟨(i : Int),i + 1,by go_num,by go_num,by omega,HFR.trans' HFI,HY⟩
                case measure => simp [intOf]; omega
              · have hc' : decide (colon < 0) = false := decide_eq_false hc;have HY := Hd (show bi l (i + 1) colon = ri by have h := HX.out; unfold fD at h; rw [if_neg (fun h => hc h.2)] at h; exact h);go_wp2_with fail;go_roundw
                case rel => exact ⟨colon,i + 1,by go_num,by go_num,by omega,HFR.trans' HFI,HY⟩
                case measure => simp [intOf]; omega
            · have h58' : (n == 58) = false := by simp [h58]
              have HY := Hd (show bi l (i + 1) colon = ri by have h := HX.out; unfold fD at h; rw [if_neg (fun h => h58 h.1)] at h; exact h);clear h58;go_wp2_with fail;go_roundw
              case rel => exact ⟨colon,i + 1,by go_num,by go_num,by omega,HFR.trans' HFI,HY⟩
              case measure => simp [intOf]; omega
   · have hge : (l.length : Int) ≤ (i : Int) := jj;have hnl : ¬ (i : Int) < (l.length : Int) := jj;rw [dF l i colon hlt] at hri;have HX := Hd hri.symm;clear hri hlt;go_wp2_with fail;go_ret;exact IsB.of HFE (by rw [HX.out])
theorem kl (x : DT) (w : World) (hk0 : 0 ≤ x.kind) (hk2 : x.kind ≤ 2) (ha : x.text.size ≤ 4096) (hb : x.type.size ≤ 4096) (hc : x.lang.size ≤ 4096) : Calls prog 70 #[.agg x.cells] w (IsB (gT x) w) := by
 obtain ⟨k,a,b,c⟩ := x;simp only at hk0 hk2 ha hb hc;unfold gT DT.cells;simp only;have F0 := Fr.a1 w (.cells #[.int .i64 k,.string a,.string b,.string c] 67);have hbl := Blk.new w 67 #[.int .i64 k,.string a,.string b,.string c];have HLA := Hd (fun w => tx a w ha);have HIA := Hd (fun w => rE a w ha);by_cases h0 : k = 0
 · subst h0;rw [if_pos rfl];generalize iX a = r at *;go_enter func70,ntmps70;go_wp2_with fail;refine (HLA _).mono ?_;rintro e w1 ⟨rfl,rfl⟩;go_wp2_with fail;go_ret;exact IsB.of F0 (by simp)
 · by_cases h1 : k = 1
   · subst h1;rw [if_neg de,if_pos rfl];clear h0;generalize oW a = r at *;go_enter func70,ntmps70;go_wp2_with fail;refine (HIA _).mono ?_;rintro e w1 ⟨rfl,hf1⟩;have HF1 := Hd (F0.trans' hf1);clear hf1;go_wp2_with fail;go_ret;exact IsB.of HF1 (by simp)
   · have h2 : k = 2 := jj;subst h2;rw [if_neg de,if_neg de];clear h0 h1 HLA HIA hk0 hk2;have HIB := Hd (fun w => rE b w hb);have HLC := Hd (fun w => wk c w hc);have HSI := Hd (fun w => ow a w ha);unfold iA at HSI;obtain ⟨l,ok,hlo⟩ : ∃ l ok,dE a = (l,ok) := ⟨_,_,rfl⟩;unfold Al;rw [decide_eq_true ha,Bool.true_and];rw [hlo] at HSI ⊢;clear hlo;dsimp only;have HSI := Hd (show ∀ w,Calls prog 121 #[.string a] w fun e w' => ∃ (A : Option Addr) (c : Nat),e = .returned (.tuple #[.slice A l.length c,.bool ok]) ∧ w'.ownsRow w.heap.size 3 1 (.slice A l.length c) l.length (l.map (.int .i64)) ∧ l.length ≤ a.size ∧ Fr (fun _ => False) w w' from HSI);have ha' : decide ((4096 : Int) < (a.size : Int)) = false := FX;generalize oW b = ib at *;generalize lE c = lc at *;obtain ⟨q,hq⟩ : ∃ q : Bool,(b.toList == [104,116,116,112,58,47,47,119,119,119,46,119,51,46,111,114,103,47,49,57,57,57,47,48,50,47,50,50,45,114,100,102,45,115,121,110,116,97,120,45,110,115,35,108,97,110,103,83,116,114,105,110,103]) = q := ⟨_,rfl⟩;obtain ⟨e0,he⟩ : ∃ e : Bool,c.toList.isEmpty = e := ⟨_,rfl⟩;have he2 : (c.toList == []) = e0 := by rw [← he]; cases c.toList <;> rfl
     rw [hq,he];cases ok with
     | false =>
      go_enter func70,ntmps70;go_wp2_with fail;refine (HSI _).mono ?_;rintro e w1 ⟨A,n,rfl,-,-,hf1⟩;have hb1 := hbl.fr hf1 id;have c1 := hb1.c1;have c2 := hb1.c2;have HF1 := Hd (F0.trans' hf1);have HB1 := Hd hb1;clear hf1 hb1 hbl F0;go_wp2_with fail
      all_goals (go_ret; exact IsB.of HF1 (by simp))
     | true => cases ib with
      | false =>
       go_enter func70,ntmps70;go_wp2_with fail;refine (HSI _).mono ?_;rintro e w1 ⟨A,n,rfl,-,-,hf1⟩;have hb1 := hbl.fr hf1 id;have c1 := hb1.c1;have c2 := hb1.c2;have HF1 := Hd (F0.trans' hf1);have HB1 := Hd hb1;clear hf1 hb1 hbl F0;go_wp2_with fail;refine (HIB _).mono ?_;rintro e w2 ⟨rfl,hf2⟩;have hb2 := HB1.fr hf2 id;have d2 := hb2.c2;have d3 := hb2.c3;have HF2 := Hd (HF1.trans' hf2);clear hf2 hb2 c1 c2;go_wp2_with fail
       all_goals (go_ret; exact IsB.of HF2 (by simp))
      | true => cases e0 with
       | true => cases q with
        | true =>
         go_enter func70,ntmps70;go_wp2_with fail;refine (HSI _).mono ?_;rintro e w1 ⟨A,n,rfl,-,-,hf1⟩;have hb1 := hbl.fr hf1 id;have c1 := hb1.c1;have c2 := hb1.c2;have HF1 := Hd (F0.trans' hf1);have HB1 := Hd hb1;clear hf1 hb1 hbl F0;go_wp2_with fail;refine (HIB _).mono ?_;rintro e w2 ⟨rfl,hf2⟩;have hb2 := HB1.fr hf2 id;have d2 := hb2.c2;have d3 := hb2.c3;have HF2 := Hd (HF1.trans' hf2);clear hf2 hb2 c1 c2;go_wp2_with fail;go_ret;exact IsB.of HF2 (by simp)
        | false =>
         go_enter func70,ntmps70;go_wp2_with fail;refine (HSI _).mono ?_;rintro e w1 ⟨A,n,rfl,-,-,hf1⟩;have hb1 := hbl.fr hf1 id;have c1 := hb1.c1;have c2 := hb1.c2;have HF1 := Hd (F0.trans' hf1);have HB1 := Hd hb1;clear hf1 hb1 hbl F0;go_wp2_with fail;refine (HIB _).mono ?_;rintro e w2 ⟨rfl,hf2⟩;have hb2 := HB1.fr hf2 id;have d2 := hb2.c2;have d3 := hb2.c3;have HF2 := Hd (HF1.trans' hf2);clear hf2 hb2 c1 c2;go_wp2_with fail;go_ret;exact IsB.of HF2 (by simp)
       | false => cases q with
        | false =>
         go_enter func70,ntmps70;go_wp2_with fail;refine (HSI _).mono ?_;rintro e w1 ⟨A,n,rfl,-,-,hf1⟩;have hb1 := hbl.fr hf1 id;have c1 := hb1.c1;have c2 := hb1.c2;have HF1 := Hd (F0.trans' hf1);have HB1 := Hd hb1;clear hf1 hb1 hbl F0;go_wp2_with fail;refine (HIB _).mono ?_;rintro e w2 ⟨rfl,hf2⟩;have hb2 := HB1.fr hf2 id;have d2 := hb2.c2;have d3 := hb2.c3;have HF2 := Hd (HF1.trans' hf2);clear hf2 hb2 c1 c2;go_wp2_with fail;go_ret;exact IsB.of HF2 (by simp)
        | true =>
         go_enter func70,ntmps70;go_wp2_with fail;refine (HSI _).mono ?_;rintro e w1 ⟨A,n,rfl,-,-,hf1⟩;have hb1 := hbl.fr hf1 id;have c1 := hb1.c1;have c2 := hb1.c2;have HF1 := Hd (F0.trans' hf1);have HB1 := Hd hb1;clear hf1 hb1 hbl F0;go_wp2_with fail;refine (HIB _).mono ?_;rintro e w2 ⟨rfl,hf2⟩;have hb2 := HB1.fr hf2 id;have d2 := hb2.c2;have d3 := hb2.c3;have HF2 := Hd (HF1.trans' hf2);clear hf2 hb2 c1 c2;go_wp2_with fail;refine (HLC _).mono ?_;rintro e w3 ⟨rfl,rfl⟩;go_wp2_with fail;go_ret;exact IsB.of HF2 (by simp)
structure D3 where
 a : DT
 b : DT
 c : DT
def DT.list (x : DT) : List Value := [.int .i64 x.kind,.string x.text,.string x.type,.string x.lang]
def D3.list (d : D3) : List Value := d.a.list ++ d.b.list ++ d.c.list
def D3.cells (d : D3) : Array Value := #[.int .i64 d.a.kind,.string d.a.text,.string d.a.type,.string d.a.lang,.int .i64 d.b.kind,.string d.b.text,.string d.b.type,.string d.b.lang,.int .i64 d.c.kind,.string d.c.text,.string d.c.type,.string d.c.lang]
def DT.fits (x : DT) : Prop := 0 ≤ x.kind ∧ x.kind ≤ 2 ∧ x.text.size ≤ 4096 ∧ x.type.size ≤ 4096 ∧ x.lang.size ≤ 4096
def D3.ok (d : D3) : Bool := gT d.a && (decide (d.a.kind < 2) && (gT d.b && (d.b.kind == 1 && gT d.c)))
theorem iB {t : TypeId} {v0 v1 v2 v3 v4 v5 v7 v8 v9 v10 v11 : Value} (h : Blk w g t #[v0,v1,v2,v3,v4,v5,v6,v7,v8,v9,v10,v11]) :
    (w.cell? ⟨g,0,none⟩ = some v0 ∧ w.cell? ⟨g,1,none⟩ = some v1 ∧ w.cell? ⟨g,2,none⟩ = some v2 ∧ w.cell? ⟨g,3,none⟩ = some v3) ∧ (w.cell? ⟨g,4,none⟩ = some v4 ∧ w.cell? ⟨g,5,none⟩ = some v5 ∧ w.cell? ⟨g,6,none⟩ = some v6 ∧ w.cell? ⟨g,7,none⟩ = some v7) ∧ (w.cell? ⟨g,8,none⟩ = some v8 ∧ w.cell? ⟨g,9,none⟩ = some v9 ∧ w.cell? ⟨g,10,none⟩ = some v10 ∧ w.cell? ⟨g,11,none⟩ = some v11) :=
 ⟨⟨h.cell 0,h.cell 1,h.cell 2,h.cell 3⟩,⟨h.cell 4,h.cell 5,h.cell 6,h.cell 7⟩,⟨h.cell 8,h.cell 9,h.cell 10,h.cell 11⟩⟩
theorem yR (d : D3) (w : World) (ha : d.a.fits) (hb : d.b.fits) (hc : d.c.fits) : Calls prog 25 #[.agg d.cells] w (IsB d.ok w) := by
 obtain ⟨⟨ka,a1,a2,a3⟩,⟨kb,b1,b2,b3⟩,⟨kc,c1,c2,c3⟩⟩ := d;have HA := Hd (fun w => kl ⟨ka,a1,a2,a3⟩ w ha.1 ha.2.1 ha.2.2.1 ha.2.2.2.1 ha.2.2.2.2);have HB := Hd (fun w => kl ⟨kb,b1,b2,b3⟩ w hb.1 hb.2.1 hb.2.2.1 hb.2.2.2.1 hb.2.2.2.2);have HC := Hd (fun w => kl ⟨kc,c1,c2,c3⟩ w hc.1 hc.2.1 hc.2.2.1 hc.2.2.2.1 hc.2.2.2.2);unfold D3.ok D3.cells;unfold DT.cells at HA HB HC;dsimp only at HA HB HC ⊢;generalize gT ⟨ka,a1,a2,a3⟩ = ga at *;generalize gT ⟨kb,b1,b2,b3⟩ = gb at *;generalize gT ⟨kc,c1,c2,c3⟩ = gc at *;clear ha hb hc;have hB := Blk.new w 69 #[.int .i64 ka,.string a1,.string a2,.string a3,.int .i64 kb,.string b1,.string b2,.string b3,.int .i64 kc,.string c1,.string c2,.string c3];have F0 := Hd ((Fr.refl (fun _ => False) w).alloc (.cells #[.int .i64 ka,.string a1,.string a2,.string a3,.int .i64 kb,.string b1,.string b2,.string b3,.int .i64 kc,.string c1,.string c2,.string c3] 69));have HBK := Hd hB;clear hB;go_enter func25,ntmps25;go_wp2_with fail;refine (HA _).mono ?_;rintro e w1 ⟨rfl,hf1⟩;have HF1 := Hd (F0.trans' hf1);have hk1 := HBK.fr hf1 id;obtain ⟨⟨x0,x1,x2,x3⟩,⟨x4,x5,x6,x7⟩,⟨x8,x9,x10,x11⟩⟩ := iB hk1;have HK1 := Hd hk1;clear hf1 hk1;cases ga with
 | false =>
  go_wp2_with fail;go_ret;exact IsB.of HF1.out rfl
 | true =>
  by_cases hk : ka < 2
  · have hk' : decide (ka < 2) = true := decide_eq_true hk;go_wp2_with fail;refine (HB _).mono ?_;rintro e w2 ⟨rfl,hf2⟩;clear x0 x1 x2 x3 x4 x5 x6 x7 x8 x9 x10 x11;have HF2 := Hd (HF1.trans' hf2);have hk2 := HK1.fr hf2 id;obtain ⟨⟨x0,x1,x2,x3⟩,⟨x4,x5,x6,x7⟩,⟨x8,x9,x10,x11⟩⟩ := iB hk2;clear hf2 hk2;cases gb with
    | false =>
     go_wp2_with fail;go_ret;exact IsB.of HF2 (by simp)
    | true =>
     by_cases hq : kb = 1
     · subst hq;go_wp2_with fail;refine (HC _).mono ?_;rintro e w3 ⟨rfl,hf3⟩;have HF3 := Hd (HF2.trans' hf3);clear hf3;go_wp2_with fail;go_ret;exact IsB.of HF3 (by simp [hk])
     · have hq' : (kb == 1) = false := by simpa using hq
       go_wp2_with fail;go_ret;exact IsB.of HF2 (by simp [hq])
  · have hk' : decide (ka < 2) = false := decide_eq_false hk;have HK := Hd hk';go_wp2_with fail;go_ret;exact IsB.of HF1 (by rw [HK.out]; rfl)
def D3.tms (d : D3) : Array Value := #[(bY d.a).val,(bY d.b).val,(bY d.c).val]
theorem yS (d : D3) (w : World) (ha : d.a.fits) (hb : d.b.fits) (hc : d.c.fits) : Calls prog 19 #[.agg d.cells] w fun e w' => e = .returned (.agg d.tms) ∧ Fr (fun _ => False) w w' := by
 obtain ⟨⟨ka,a1,a2,a3⟩,⟨kb,b1,b2,b3⟩,⟨kc,c1,c2,c3⟩⟩ := d;have HA := Hd (fun w => kj ⟨ka,a1,a2,a3⟩ w ha.1 ha.2.1);have HB := Hd (fun w => kj ⟨kb,b1,b2,b3⟩ w hb.1 hb.2.1);have HC := Hd (fun w => kj ⟨kc,c1,c2,c3⟩ w hc.1 hc.2.1);unfold D3.tms D3.cells;unfold DT.cells at HA HB HC;dsimp only at HA HB HC ⊢;obtain ⟨da,xa,ea⟩ := (bY ⟨ka,a1,a2,a3⟩).shape;rw [ea] at HA ⊢;obtain ⟨db,xb,eb⟩ := (bY ⟨kb,b1,b2,b3⟩).shape;rw [eb] at HB ⊢;obtain ⟨dc,xc,ec⟩ := (bY ⟨kc,c1,c2,c3⟩).shape;rw [ec] at HC ⊢;clear ha hb hc ea eb ec;obtain ⟨W0,hW0⟩ : ∃ W0,W0 = (w.alloc (.cells #[.int .i64 ka,.string a1,.string a2,.string a3,.int .i64 kb,.string b1,.string b2,.string b3,.int .i64 kc,.string c1,.string c2,.string c3] 69)).alloc (.cells #[.nilIface,.nilIface,.nilIface] 77) := ⟨_,rfl⟩;have e1 := al1 w (.cells #[.int .i64 ka,.string a1,.string a2,.string a3,.int .i64 kb,.string b1,.string b2,.string b3,.int .i64 kc,.string c1,.string c2,.string c3] 69);have b0 : Blk W0 w.heap.size 69 #[.int .i64 ka,.string a1,.string a2,.string a3,.int .i64 kb,.string b1,.string b2,.string b3,.int .i64 kc,.string c1,.string c2,.string c3] := by rw [hW0]; exact (Blk.new w 69 _).alloc _
 have b1' : Blk W0 (w.heap.size + 1) 77 #[.nilIface,.nilIface,.nilIface] := by rw [hW0,← e1]; exact Blk.new _ 77 _
 have hf0 : Fr (fun _ => False) w W0 := by rw [hW0]; exact ((Fr.refl _ w).alloc _).alloc _
 have HSX := Hd (show ∀ wy,Fr (fun j => j = w.heap.size + 1) W0 wy → wy.cell? ⟨w.heap.size,0,none⟩ = some (.int .i64 ka) ∧ wy.cell? ⟨w.heap.size,1,none⟩ = some (.string a1) ∧ wy.cell? ⟨w.heap.size,2,none⟩ = some (.string a2) ∧ wy.cell? ⟨w.heap.size,3,none⟩ = some (.string a3) ∧ wy.cell? ⟨w.heap.size,4,none⟩ = some (.int .i64 kb) ∧ wy.cell? ⟨w.heap.size,5,none⟩ = some (.string b1) ∧ wy.cell? ⟨w.heap.size,6,none⟩ = some (.string b2) ∧ wy.cell? ⟨w.heap.size,7,none⟩ = some (.string b3) ∧ wy.cell? ⟨w.heap.size,8,none⟩ = some (.int .i64 kc) ∧ wy.cell? ⟨w.heap.size,9,none⟩ = some (.string c1) ∧ wy.cell? ⟨w.heap.size,10,none⟩ = some (.string c2) ∧ wy.cell? ⟨w.heap.size,11,none⟩ = some (.string c3) from fun wy hf => by
  obtain ⟨⟨x0,x1,x2,x3⟩,⟨x4,x5,x6,x7⟩,⟨x8,x9,x10,x11⟩⟩ := iB (b0.fr hf (by omega));exact ⟨x0,x1,x2,x3,x4,x5,x6,x7,x8,x9,x10,x11⟩)
 have HBR := Hd b1';have HF0 := Hd hf0;have HW := Hd hW0;clear hW0 hf0 b1' b0 e1;go_enter func19,ntmps19;go_wp2_with fail;rw [← HW.out];refine wp_region_noPanic ?_;refine wp_region_held_drew (S := (fun wy => wy.cell? ⟨w.heap.size,0,none⟩ = some (.int .i64 ka) ∧ wy.cell? ⟨w.heap.size,1,none⟩ = some (.string a1) ∧ wy.cell? ⟨w.heap.size,2,none⟩ = some (.string a2) ∧ wy.cell? ⟨w.heap.size,3,none⟩ = some (.string a3) ∧ wy.cell? ⟨w.heap.size,4,none⟩ = some (.int .i64 kb) ∧ wy.cell? ⟨w.heap.size,5,none⟩ = some (.string b1) ∧ wy.cell? ⟨w.heap.size,6,none⟩ = some (.string b2) ∧ wy.cell? ⟨w.heap.size,7,none⟩ = some (.string b3) ∧ wy.cell? ⟨w.heap.size,8,none⟩ = some (.int .i64 kc) ∧ wy.cell? ⟨w.heap.size,9,none⟩ = some (.string c1) ∧ wy.cell? ⟨w.heap.size,10,none⟩ = some (.string c2) ∧ wy.cell? ⟨w.heap.size,11,none⟩ = some (.string c3))) kr ?_ (fun hHeld => ?_)
 · try dsimp only
   exact HSX _ (Fr.refl (fun j => j = w.heap.size + 1) W0).drew
 refine oT 0 ?_;refine oT 1 ?_;refine oT 3 ?_;refine oT 4 ?_;refine oT 6 ?_;refine oT 7 ?_;refine oR [2] ?_;refine oC (fun K hK => ?_) ?_
 · go_simp;go_at_call 57;refine (HA _).mono ?_;rintro e_a w_a ⟨rfl,hf_a⟩;have F_a : Fr (fun j => j = w.heap.size + 1) W0 w_a := (hf_a.mono uu).drew_l;refine oK hK ?_ fun hHeld => ?_
   · try dsimp only
     exact HSX _ F_a
   clear hK K;refine oR [5] ?_;refine oC (fun K hK => ?_) ?_
   · go_simp;go_at_call 57;refine (HB _).mono ?_;rintro e_b w_b ⟨rfl,hf_b⟩;have F_b : Fr (fun j => j = w.heap.size + 1) W0 w_b := F_a.trans hf_b uu;refine oK hK ?_ fun hHeld => ?_
     · try dsimp only
       exact HSX _ F_b
     clear hK K;refine oR [8] ?_;refine oC (fun K hK => ?_) ?_
     · go_simp;go_at_call 57;refine (HC _).mono ?_;rintro e_c w_c ⟨rfl,hf_c⟩;have F_c : Fr (fun j => j = w.heap.size + 1) W0 w_c := F_b.trans hf_c uu;have hbs := HBR.fr (show Fr (fun _ => False) W0 w_c from (hf_a.drew_l.trans' hf_b).trans' hf_c) id;have f0 := hbs.frozen 0;have cc0 := hbs.c0;have hb1 := hbs.set_ 0 (.iface da xa);have d1 := hb1.cell 1;have g1 := hb1.frozen 1;have hb2 := hb1.set_ 1 (.iface db xb);have d2 := hb2.cell 2;have g2 := hb2.frozen 2;have hb3 := hb2.set_ 2 (.iface dc xc);refine oK hK ?_ fun hHeld => ?_
       · try dsimp only
         exact HSX _ F_c
       clear hK K;refine oT 9 ?_;refine oR [10] ?_;refine oC (fun K hK => ?_) ?_
       · go_simp;have F_d : Fr (fun j => j = w.heap.size + 1) W0 (((w_c.setCell ⟨w.heap.size + 1,0,none⟩ (.iface da xa)).setCell ⟨w.heap.size + 1,1,none⟩ (.iface db xb)).setCell ⟨w.heap.size + 1,2,none⟩ (.iface dc xc)) := ((F_c.setCell ⟨w.heap.size + 1,0,none⟩ (fun _ => rfl) _).setCell ⟨w.heap.size + 1,1,none⟩ (fun _ => rfl) _).setCell ⟨w.heap.size + 1,2,none⟩ (fun _ => rfl) _;refine oK hK ?_ fun hHeld => ?_
         · try dsimp only
           exact HSX _ F_d
         clear hK K;refine oD (NoPanic.normal ?_);go_wp2_with fail;exact bodyPost_ret (v := .agg #[(.iface da xa),(.iface db xb),(.iface dc xc)]) (results_cell_row rfl _ _ (w.heap.size + 1) 77 _ (0,0) _ rfl hb3 underlying77 rfl kr) rfl ⟨rfl,HF0.trans F_d (fun j hj e => by omega)⟩
       exact .nil
     exact .nil
   exact .nil
 exact .nil
theorem BU (t : Tm) (w : World) (hs : t.short) (hg : t.good = true) (hk : t.kind < 2) : Calls prog 102 #[t.val] w (IsB true w) := by
 have HG := Hd (fun w => eC t w hs);rw [hg] at HG;have HK := Hd (fun w => k9 t w);generalize t.kind = k at *;generalize t.val = v at *;clear hg hs;go_enter func102,ntmps102;go_wp2_with fail;refine (HG _).mono ?_;rintro e w1 ⟨rfl,hf1⟩;have HF1 := Hd hf1;clear hf1;go_wp2_with fail;refine (HK _).mono ?_;rintro e w2 ⟨rfl,rfl⟩;go_wp2_with fail;go_ret;exact IsB.of HF1 (by simp)
theorem BV (t : Tm) (w : World) (hs : t.short) (hg : t.good = true) (hk : t.kind = 1) : Calls prog 103 #[t.val] w (IsB true w) := by
 have HG := Hd (fun w => eC t w hs);rw [hg] at HG;have HK := Hd (fun w => k9 t w);rw [hk] at HK;generalize t.val = v at *;clear hg hs hk;go_enter func103,ntmps103;go_wp2_with fail;refine (HG _).mono ?_;rintro e w1 ⟨rfl,hf1⟩;have HF1 := Hd hf1;clear hf1;go_wp2_with fail;refine (HK _).mono ?_;rintro e w2 ⟨rfl,rfl⟩;go_wp2_with fail;go_ret;exact ⟨rfl,HF1⟩
theorem BW (ta tb tc : Tm) (w : World) (ha : ta.short) (hb : tb.short) (hc : tc.short) (ga : ta.good = true) (gb : tb.good = true) (gc : tc.good = true) (ka : ta.kind < 2) (kb : tb.kind = 1) : Calls prog 54 #[.agg #[ta.val,tb.val,tc.val]] w (IsB true w) := by
 have HA := Hd (fun w => BU ta w ha ga ka);have HB := Hd (fun w => BV tb w hb gb kb);have HC := Hd (fun w => eC tc w hc);rw [gc] at HC;obtain ⟨da,xa,ea⟩ := ta.shape;obtain ⟨db,xb,eb⟩ := tb.shape;obtain ⟨dc,xc,ec⟩ := tc.shape;rw [ea] at HA ⊢;rw [eb] at HB ⊢;rw [ec] at HC ⊢;have hb0 := Blk.new w 77 #[.iface da xa,.iface db xb,.iface dc xc];have F0 := Hd ((Fr.refl (fun _ => False) w).alloc (.cells #[.iface da xa,.iface db xb,.iface dc xc] 77));have HBK := Hd hb0;clear ha hb hc ga gb gc ka kb ea eb ec hb0;go_enter func54,ntmps54;go_wp2_with fail;refine (HA _).mono ?_;rintro e w1 ⟨rfl,hf1⟩;have hk1 := HBK.fr hf1 id;have x0 := hk1.c1;have HK1 := Hd hk1;have HF1 := Hd (F0.trans' hf1);clear hf1 hk1;go_wp2_with fail;refine (HB _).mono ?_;rintro e w2 ⟨rfl,hf2⟩;clear x0;have hk2 := HK1.fr hf2 id;have x0 := hk2.c2;have HF2 := Hd (HF1.trans' hf2);clear hf2 hk2;go_wp2_with fail;refine (HC _).mono ?_;rintro e w3 ⟨rfl,hf3⟩;have HF3 := Hd (HF2.trans' hf3);clear hf3;go_wp2_with fail;go_ret;exact ⟨rfl,HF3⟩
theorem BX (hg : t.good = true) (hr : (ts.length : Int) < room) : zX ts t room = 0 := by
 unfold zX;rw [if_pos hg];split
 · rfl
 · rw [if_neg jj]
theorem uI (ts : List Tm) (t : Tm) (room : Int) : (mN ts t room).length ≤ ts.length + 1 ∧ ts.length ≤ (mN ts t room).length := by
 unfold mN;split
 · split
   · omega
   · split
     · omega
     · simp
 · omega
noncomputable def e7 (T : Nat → Tm) (ts : List Tm) (room : Int) : Nat → List Tm
 | 0 => ts
 | k + 1 => mN (e7 T ts room k) (T k) room
noncomputable def eV (T : Nat → Tm) (ts : List Tm) (room : Int) (k : Nat) : Int := qa (e7 T ts room k) (T k) room
noncomputable def tA (T : Nat → Tm) (ts : List Tm) (room : Int) (k : Nat) : Array Value :=
 #[.int .i64 (if 0 < k then eV T ts room 0 else 0),.int .i64 (if 1 < k then eV T ts room 1 else 0),.int .i64 (if 2 < k then eV T ts room 2 else 0)]
theorem kV (T : Nat → Tm) (ts : List Tm) (room : Int) : ∀ k,(e7 T ts room k).length ≤ ts.length + k
 | 0 => Nat.le_refl _
 | k + 1 => by
  have h1 := kV T ts room k;have h2 := (uI (e7 T ts room k) (T k) room).1;show (mN (e7 T ts room k) (T k) room).length ≤ _;omega
theorem wn (T : Nat → Tm) (ts : List Tm) (room : Int) (k : Nat) (hk : k < 3) : (tA T ts room k).setIfInBounds k (.int .i64 (eV T ts room k)) = tA T ts room (k + 1) := by
 rcases (by omega : k = 0 ∨ k = 1 ∨ k = 2) with rfl | rfl | rfl <;> rfl
theorem BZ (T : Nat → Tm) (ts : List Tm) (room : Int) (k : Nat) (hk : k < 3) : (tA T ts room k)[k]? = some (.int .i64 0) := by
 rcases (by omega : k = 0 ∨ k = 1 ∨ k = 2) with rfl | rfl | rfl <;> rfl
theorem Ed (v0 v1 v2 : Value) (T : Nat → Value) (h0 : T 0 = v0) (h1 : T 1 = v1) (h2 : T 2 = v2) (k : Nat) (hk : k < 3) (w : World) : (Instr.index 140 (.agg #[v0,v1,v2]) (.int .i64 (k : Int))).run prog w = .ok (T k) w := by
 subst h0 h1 h2;rcases (by omega : k = 0 ∨ k = 1 ∨ k = 2) with rfl | rfl | rfl <;> kernel_rfl
structure yT (w wr : World) (B b r ob : Nat) (vt0 vt : Value) (T : Nat → Tm) (ts : List Tm) (room : Int) (k : Nat) : Prop where
 dict : aU wr B b r vt (e7 T ts room k) room
 out : Blk wr ob 71 (tA T ts room k)
 res : Blk wr (w.heap.size + 1) 71 #[.int .i64 0,.int .i64 0,.int .i64 0]
 far : ∀ j,vt.ownBlock = some j → vt0.ownBlock = some j ∨ w.heap.size ≤ j
 fr : Fr (fun j => j = b ∨ j = r ∨ vt0.ownBlock = some j) w wr
def pM (w : World) (B b r : Nat) (vt0 : Value) (T : Nat → Tm) (ts : List Tm) (room : Int) (e : Ending) (w' : World) : Prop :=
 ∃ vt,e = .returned (.tuple #[.agg (tA T ts room 3),.int .i64 0]) ∧ aU w' B b r vt (e7 T ts room 3) room ∧ (∀ j,vt.ownBlock = some j → vt0.ownBlock = some j ∨ w.heap.size ≤ j) ∧ Fr (fun j => j = b ∨ j = r ∨ vt0.ownBlock = some j) w w'
theorem B4 (T : Nat → Tm) (B b r : Nat) (vt0 : Value) (ts : List Tm) (room : Int) (w : World) (hd : aU w B b r vt0 ts room) (hB : B ≤ w.heap.size) (hs : ∀ k,(T k).short) (hg : ∀ k,(T k).good = true) (ka : (T 0).kind < 2) (kb : (T 1).kind = 1) (hr : (ts.length : Int) + 3 ≤ room) (hr2 : room ≤ 65536) :
    Calls prog 18 #[.pointer (some ⟨b,0,none⟩),.agg #[(T 0).val,(T 1).val,(T 2).val]] w (pM w B b r vt0 T ts room) := by
 have HGOOD := Hd (fun w => BW (T 0) (T 1) (T 2) w (hs 0) (hs 1) (hs 2) (hg 0) (hg 1) (hg 2) ka kb);obtain ⟨d0,x0,e0⟩ := (T 0).shape;obtain ⟨d1,x1,e1⟩ := (T 1).shape;obtain ⟨d2,x2,e2⟩ := (T 2).shape;have HIDX := Hd (fun k hk w => Ed (.iface d0 x0) (.iface d1 x1) (.iface d2 x2) (fun k => (T k).val) e0 e1 e2 k hk w);rw [e0,e1,e2] at HGOOD;rw [e0,e1,e2];have HPUT := Hd (fun W vt k (h : aU W B b r vt (e7 T ts room k) room) (hB : B ≤ W.heap.size) (hk : k < 3) => by
  have hl := kV T ts room k;have h := zY W B b r vt (e7 T ts room k) room (T k) h (hs k) jj hB;rw [BX (hg k) jj] at h;exact h)
 unfold tP at HPUT;have hk1 := Blk.new (w.alloc (.cells #[.iface d0 x0,.iface d1 x1,.iface d2 x2] 77)) 71 #[.int .i64 0,.int .i64 0,.int .i64 0];rw [show (w.alloc (.cells #[.iface d0 x0,.iface d1 x1,.iface d2 x2] 77)).heap.size = w.heap.size + 1 by simp] at hk1;have HBX := Hd ((Blk.new w 77 #[.iface d0 x0,.iface d1 x1,.iface d2 x2]).alloc (.cells #[.int .i64 0,.int .i64 0,.int .i64 0] 71));have HRS := Hd hk1;have HF0 := Hd (((Fr.refl (fun _ => False) w).alloc (.cells #[.iface d0 x0,.iface d1 x1,.iface d2 x2] 77)).alloc (.cells #[.int .i64 0,.int .i64 0,.int .i64 0] 71));have HD := Hd hd;have HBL := Hd hB;have HBB := Hd (And.intro hd.blk.lt hd.map.lt);clear hk1 e0 e1 e2 hs hg ka kb hr hr2 hd hB;go_enter func18,ntmps18;go_wp2_with fail;refine (HGOOD.out _).mono ?_;rintro e w1 ⟨rfl,hf1⟩;have hfw := HF0.out.trans' hf1;have hd1 := HD.out.frF hfw;have hbx1 := HBX.out.fr hf1 id;have p0 := hbx1.c0;have p1 := hbx1.c1;have p2 := hbx1.c2;obtain ⟨A0,c0,hv0⟩ := ad hd1.row;have q0 : w1.cell? ⟨b,0,none⟩ = some (.slice A0 ts.length c0) := by rw [← hv0]; exact hd1.blk.cell 0
 have lb := hd1.blk.lt;have lx := hbx1.lt;have HST := Hd (show yT w (w1.alloc (.cells #[.int .i64 0,.int .i64 0,.int .i64 0] 71)) B b r w1.heap.size vt0 vt0 T ts room 0 from
  ⟨hd1.frF ((Fr.refl _ _).alloc _),Blk.new w1 71 _,(HRS.out.fr hf1 id).alloc _,fun j h => .inl h,(hfw.mono uu).alloc _⟩)
 have HOB := Hd (show w.heap.size + 1 < w1.heap.size from (HRS.out.fr hf1 id).lt);clear hd1 hbx1 hf1 hfw hv0;go_wp2_with fail;generalize w1.heap.size = ob at *
 go_loopw [28] (fun iv wr => ∃ (k : Nat) (vt : Value),iv = .int .i64 (k : Int) ∧ k ≤ 3 ∧ yT w wr B b r ob vt0 vt T ts room k) (fun iv _ => 3 - (intOf iv).toNat)
 case atStart => exact ⟨0,vt0,rfl,Nat.zero_le _,HST.out⟩
 case round =>
  obtain ⟨k,vt,rfl,hk,hK⟩ := hrel;have HK := Hd hK;by_cases hlt : k < 3
  · have hlt' : (k : Int) < 3 := jj;have hix := fun w => HIDX.out k hlt w;have HP := Hd (HPUT.out wr vt k hK.dict (by have := HBL.out; have := hK.fr.size; omega) hlt);clear hK;go_wp2_with fail;refine HP.out.mono ?_;rintro e w2 ⟨vt2,rfl,hd2,hf2,hfar2⟩;have hne : ∀ (W : World) (g : Nat) (v : Value) (cs : Array Value) (L : List Tm),aU W B b r v L room → Blk W g 71 cs → w.heap.size ≤ g → ¬ (g = b ∨ g = r ∨ v.ownBlock = some g) := fun W g v cs L hd hb hg e => by
     rcases e with e | e | e
     · have := HBB.out.1; omega
     · have := HBB.out.2; omega
     · exact ac hd.row hb de e
    have ho2 := HK.out.out.fr hf2 (hne _ _ _ _ _ HK.out.dict HK.out.out (by have := HOB.out; omega));have hr2 := HK.out.res.fr hf2 (hne _ _ _ _ _ HK.out.dict HK.out.res jj);have oc : w2.cell? ⟨ob,k,none⟩ = some (.int .i64 0) := by rw [ho2.cell]; exact BZ T ts room k hlt
    have ofz := ho2.frozen k;have hs2 := ho2.set_ k (.int .i64 (eV T ts room k));rw [wn T ts room k hlt] at hs2;have FS : Fr (fun j => j = ob) w2 (w2.setCell ⟨ob,k,none⟩ (.int .i64 (eV T ts room k))) := (Fr.refl (fun j => j = ob) w2).setCell ⟨ob,k,none⟩ (fun _ => rfl) _;have hsk := HK.out.fr.size;have HNEW := Hd (show yT w (w2.setCell ⟨ob,k,none⟩ (.int .i64 (eV T ts room k))) B b r ob vt0 vt2 T ts room (k + 1) from
     ⟨hd2.fr FS (fun e => by have := HBB.out.1; have := HOB.out; omega) (fun e => by have := HBB.out.2; have := HOB.out; omega) (fun j hj e => ac hd2.row ho2 de (by rw [hj,e])),hs2,hr2.fr FS (fun e => by have := HOB.out; omega),
      fun j hj => by
       rcases hfar2 j hj with h | h
       · exact HK.out.far j h
       · exact .inr jj,
      (HK.out.fr.trans hf2 (fun j hj e => by
       rcases e with e | e | e
       · exact .inl e
       · exact .inr (.inl e)
       · rcases HK.out.far j e with h | h
         · exact .inr (.inr h)
         · omega)).trans FS (fun j hj e => by have := HOB.out; omega)⟩)
    have hkn : eV T ts room k = qa (e7 T ts room k) (T k) room := rfl;rw [hkn] at HNEW;generalize qa (e7 T ts room k) (T k) room = nk at *;clear hd2 hf2 hfar2 hne ho2 hr2 hs2 FS hsk hkn hix;go_wp2_with fail;go_roundw
    case rel => exact ⟨k + 1,vt2,by go_num,by omega,HNEW.out⟩
    case measure => simp only [intOf]; omega
  · have hlt' : ¬ (k : Int) < 3 := jj;obtain rfl : k = 3 := jj;have hO : tA T ts room 3 = #[.int .i64 (eV T ts room 0),.int .i64 (eV T ts room 1),.int .i64 (eV T ts room 2)] := rfl;have ho := hK.out;rw [hO] at ho;generalize eV T ts room 0 = n0 at *;generalize eV T ts room 1 = n1 at *;generalize eV T ts room 2 = n2 at *;have o0 := ho.c0;have o1 := ho.c1;have o2 := ho.c2;have hre := hK.res;have f0 := hre.frozen 0;have cc0 := hre.c0;have hb1 := hre.set_ 0 (.int .i64 n0);have d1 := hb1.cell 1;have g1 := hb1.frozen 1;have hb2 := hb1.set_ 1 (.int .i64 n1);have d2 := hb2.cell 2;have g2 := hb2.frozen 2;have hb3 := hb2.set_ 2 (.int .i64 n2);have FS : Fr (fun j => j = w.heap.size + 1) wr (((wr.setCell ⟨w.heap.size + 1,0,none⟩ (.int .i64 n0)).setCell ⟨w.heap.size + 1,1,none⟩ (.int .i64 n1)).setCell ⟨w.heap.size + 1,2,none⟩ (.int .i64 n2)) := (((Fr.refl (fun j => j = w.heap.size + 1) wr).setCell ⟨w.heap.size + 1,0,none⟩ (fun _ => rfl) _).setCell ⟨w.heap.size + 1,1,none⟩ (fun _ => rfl) _).setCell ⟨w.heap.size + 1,2,none⟩ (fun _ => rfl) _;have HEND := Hd (show pM w B b r vt0 T ts room (.returned (.tuple #[.agg #[.int .i64 n0,.int .i64 n1,.int .i64 n2],.int .i64 0])) (((wr.setCell ⟨w.heap.size + 1,0,none⟩ (.int .i64 n0)).setCell ⟨w.heap.size + 1,1,none⟩ (.int .i64 n1)).setCell ⟨w.heap.size + 1,2,none⟩ (.int .i64 n2)) from
     ⟨vt,by rw [hO],hK.dict.fr FS (fun e => by have := HBB.out.1; omega) (fun e => by have := HBB.out.2; omega) (fun j hj e => ac hK.dict.row hre de (by rw [hj,e])),hK.far,hK.fr.trans FS (fun j hj e => by omega)⟩)
    have HB3 := Hd hb3;clear hK ho hre hb1 hb2 hb3 FS hO;go_wp2_with fail;exact bodyPost_ret (v := .tuple #[.agg #[.int .i64 n0,.int .i64 n1,.int .i64 n2],.int .i64 0]) (gE rfl _ _ (w.heap.size + 1) 71 _ (0,0) _ rfl HB3.out underlying71 rfl kr _ rfl) rfl HEND.out
def mB (w : World) (a : Option Addr) (len : Nat) : Prop := ∀ i,i < len → ∃ (b o : Nat) (d : D3),a = some ⟨b,o,none⟩ ∧ b < w.heap.size ∧ w.rangeAt b (o + i * 12) d.list
theorem mB.frF (h : mB w a len) (hf : Fr (fun _ => False) w w') : mB w' a len := fun i hi => by
 obtain ⟨b,o,d,e,hb,hr⟩ := h i hi;refine ⟨b,o,d,e,Nat.lt_of_lt_of_le hb hf.size,fun m v hv => ?_⟩;have := hr m v hv;unfold World.cell? at this ⊢;rw [hf.block b hb id];exact this
theorem mB.frS (h : mB w a len) (hf : Fr (fun j => w.heap.size ≤ j) w w') : mB w' a len := fun i hi => by
 obtain ⟨b,o,d,e,hb,hr⟩ := h i hi;refine ⟨b,o,d,e,Nat.lt_of_lt_of_le hb hf.size,fun m v hv => ?_⟩;have := hr m v hv;unfold World.cell? at this ⊢;rw [hf.block b hb (fun h => by omega)];exact this
def D3.at (d : D3) (k : Nat) : DT := if k = 0 then d.a else if k = 1 then d.b else d.c
def DT.few (x : DT) : Prop := x.text.size ≤ 300 ∧ x.type.size ≤ 300 ∧ x.lang.size ≤ 100
theorem jg (x : DT) (h : x.few) : (fK x).fits := by
 have hk := wj x.kind;unfold fK;split
 · exact ⟨(by decide : (0 : Int) ≤ 2),(by decide : (2 : Int) ≤ 2),Nat.le_trans h.1 de,Nat.le_trans h.2.1 de,Nat.le_trans h.2.2 de⟩
 · exact ⟨hk.1,hk.2,Nat.le_trans h.1 de,Nat.zero_le _,Nat.zero_le _⟩
theorem Ee (d : D3) (k : Nat) (hk : k < 3) (w : World) : (Instr.index 166 (.agg #[.int .i64 d.a.kind,.string d.a.text,.string d.a.type,.string d.a.lang,.int .i64 d.b.kind,.string d.b.text,.string d.b.type,.string d.b.lang,.int .i64 d.c.kind,.string d.c.text,.string d.c.type,.string d.c.lang]) (.int .i64 (k : Int))).run prog w = .ok (.agg #[.int .i64 (d.at k).kind,.string (d.at k).text,.string (d.at k).type,.string (d.at k).lang]) w := by
 rcases (by omega : k = 0 ∨ k = 1 ∨ k = 2) with rfl | rfl | rfl <;> kernel_rfl
def D3.plain (d : D3) : D3 := ⟨fK d.a,fK d.b,fK d.c⟩
def D3.fits (d : D3) : Prop := d.a.fits ∧ d.b.fits ∧ d.c.fits
def mD (w : World) (B : Nat) (v : Value) (zs : List D3) : Prop := w.ownsRow B 69 12 v zs.length (zs.flatMap D3.list)
def uJ (m : Nat) (w : World) (e : Ending) (w' : World) : Prop :=
 ∃ (v : Value) (ok : Bool) (zs : List D3),e = .returned (.tuple #[v,.bool ok]) ∧ mD w' w.heap.size v zs ∧ zs.length ≤ m ∧ (∀ d ∈ zs,d.fits) ∧ Fr (fun _ => False) w w'
theorem yU (d : D3) : ∀ u ∈ d.list,u.oneCell' = true := by
 intro u hu;simp only [D3.list,DT.list,List.cons_append,List.nil_append,List.mem_cons,List.not_mem_nil,or_false] at hu;rcases hu with rfl | rfl | rfl | rfl | rfl | rfl | rfl | rfl | rfl | rfl | rfl | rfl <;> rfl
theorem pN : (prog.info? 69).map (fun i => (i.zero,i.size,i.bytes)) = some (some (.agg #[.int .i64 0,.string ⟨#[]⟩,.string ⟨#[]⟩,.string ⟨#[]⟩,.int .i64 0,.string ⟨#[]⟩,.string ⟨#[]⟩,.string ⟨#[]⟩,.int .i64 0,.string ⟨#[]⟩,.string ⟨#[]⟩,.string ⟨#[]⟩]),12,168) := kr
theorem mE : (prog.info? 69).map (·.size) = some 12 := kr
theorem B5 (a : Option Addr) (len cap : Nat) (w : World) (hin : mB w a len) (hlen : len ≤ maxLen) : Calls prog 24 #[.slice a len cap] w (uJ 10 w) := by
 have HIN := Hd hin;clear hin hlen;go_enter func24,ntmps24;go_wp2_with fail
 go_loopw [4,11] (fun v iv wr => ∃ (i : Nat) (zs : List D3),iv = .int .i64 (i : Int) ∧ i ≤ len ∧ i ≤ 10 ∧ zs.length = i ∧ mD wr w.heap.size v zs ∧ (∀ d ∈ zs,d.fits) ∧ Fr (fun j => w.heap.size ≤ j) w wr) (fun _ iv _ => 11 - (intOf iv).toNat)
 case atStart => exact ⟨0,[],rfl,Nat.zero_le _,Nat.zero_le _,rfl,World.ownsRow_nil _ _ _ _,fun d h => absurd h (by simp),Fr.refl _ _⟩
 case round =>
  obtain ⟨i,zs,rfl,hi,hi10,hzl,hts,hfit,hf⟩ := hrel;obtain ⟨wo,hwo⟩ : ∃ wo,wo = wr := ⟨wr,rfl⟩;subst hwo;have HT := Hd hts;have HFT := Hd hfit;have HF := Hd hf;have HZ := Hd hzl;by_cases hlt : i < len
  · have hlt' : (i : Int) < (len : Int) := jj;obtain ⟨b,o,d,rfl,hb,hr⟩ := HIN.frS hf i hlt;obtain ⟨⟨ka,a1,a2,a3⟩,⟨kb,b1,b2,b3⟩,⟨kc,c1,c2,c3⟩⟩ := d;have hr : wo.rangeAt b (o + i * 12) [.int .i64 ka,.string a1,.string a2,.string a3,.int .i64 kb,.string b1,.string b2,.string b3,.int .i64 kc,.string c1,.string c2,.string c3] := hr;have HR := Hd hr;clear hts hfit hf hr hzl;by_cases h10 : i = 10
    · subst h10;have HR := Hd (show wo.rangeAt b (o + 120) _ from HR);go_wp2_with (refine wpList_load_mid rfl 69 _ rfl b (o + 120) rfl _ _ HR.out underlying69 rfl mE ?_);go_ret2;exact ⟨_,true,zs,rfl,aa HT ((Fr.refl (fun _ => False) wo).alloc _) ii,by have := HZ.out; omega,HFT,(HF.alloc _).shut (Nat.le_refl _)⟩
    · have h10' : ((i : Int) == 10) = false := by simpa using (show ¬ (i : Int) = 10 by omega)
      have HIX := Hd (fun k hk w => Ee ⟨⟨ka,a1,a2,a3⟩,⟨kb,b1,b2,b3⟩,⟨kc,c1,c2,c3⟩⟩ k hk w);go_wp2_with (refine wpList_load_mid rfl 69 _ rfl b (o + i * 12) rfl _ _ HR.out underlying69 rfl mE ?_);generalize hD : (⟨⟨ka,a1,a2,a3⟩,⟨kb,b1,b2,b3⟩,⟨kc,c1,c2,c3⟩⟩ : D3).at = T at HIX;have HDD := Hd hD;clear hD
      go_loopw [25] (fun jv wx => ∃ (j : Nat),jv = .int .i64 (j : Int) ∧ j ≤ 3 ∧ (∀ m,m < j → (T m).few) ∧ Fr (fun _ => False) (wo.alloc (.cells #[.int .i64 ka,.string a1,.string a2,.string a3,.int .i64 kb,.string b1,.string b2,.string b3,.int .i64 kc,.string c1,.string c2,.string c3] 69)) wx) (fun jv _ => 3 - (intOf jv).toNat)
      case atStart => exact ⟨0,rfl,Nat.zero_le _,fun m h => absurd h jj,Fr.refl _ _⟩
      case round =>
       obtain ⟨j,rfl,hj,hfw,hfj⟩ := hrel;have HFJ := Hd hfj;have HFW := Hd hfw;clear hfw hfj;by_cases hjt : j < 3
       · have hjt' : (j : Int) < 3 := jj;have hix := fun w => HIX.out j hjt w;obtain ⟨tt,htt⟩ : ∃ tt,tt = T j := ⟨_,rfl⟩;rw [← htt] at hix;have HTT := Hd htt;clear htt;obtain ⟨tk,t1,t2,t3⟩ := tt;dsimp only at hix;have HEX := Hd (show ∀ wz,Fr (fun _ => False) wr wz → uJ 10 w (.returned (.tuple #[.slice none 0 0,.bool false])) wz from fun wz h => ⟨_,false,[],rfl,World.ownsRow_nil _ _ _ _,Nat.zero_le _,fun d h => absurd h (by simp),(((HF.alloc _).trans HFJ.out uu).trans h uu).shut (Nat.le_refl _)⟩);by_cases q1 : 300 < t1.size
         · have q1' : (300 : Int) < (t1.size : Int) := jj;go_wp2_with fail;go_ret2;exact HEX _ ((Fr.refl _ _).alloc _)
         · have q1' : ¬ (300 : Int) < (t1.size : Int) := jj;by_cases q2 : 300 < t2.size
           · have q2' : (300 : Int) < (t2.size : Int) := jj;go_wp2_with fail;go_ret2;exact HEX _ ((Fr.refl _ _).alloc _)
           · have q2' : ¬ (300 : Int) < (t2.size : Int) := jj;by_cases q3 : 100 < t3.size
             · have q3' : (100 : Int) < (t3.size : Int) := jj;go_wp2_with fail;go_ret2;exact HEX _ ((Fr.refl _ _).alloc _)
             · have q3' : ¬ (100 : Int) < (t3.size : Int) := jj;have HNW := Hd (show ∀ m,m < j + 1 → (T m).few from fun m hm => by
                by_cases h : m < j
                · exact HFW.out m h
                · obtain rfl : m = j := jj;rw [← HTT.out];exact ⟨by show t1.size ≤ 300; omega,by show t2.size ≤ 300; omega,by show t3.size ≤ 100; omega⟩)
               clear HEX;go_wp2_with fail;go_roundw
               case rel => exact ⟨j + 1,by go_num,by omega,HNW,HFJ.alloc _⟩
               case measure => simp only [intOf]; omega
       · have hjt' : ¬ (j : Int) < 3 := jj;obtain rfl : j = 3 := jj;obtain rfl := HDD.out;have HPA := Hd (fun w => je ⟨ka,a1,a2,a3⟩ w);have HPB := Hd (fun w => je ⟨kb,b1,b2,b3⟩ w);have HPC := Hd (fun w => je ⟨kc,c1,c2,c3⟩ w);unfold DT.cells at HPA HPB HPC;dsimp only at HPA HPB HPC;have hfa := jg _ (HFW.out 0 de);have hfb := jg _ (HFW.out 1 de);have hfc := jg _ (HFW.out 2 de);obtain ⟨pa,hpa⟩ : ∃ pa,pa = fK ⟨ka,a1,a2,a3⟩ := ⟨_,rfl⟩;obtain ⟨pb,hpb⟩ : ∃ pb,pb = fK ⟨kb,b1,b2,b3⟩ := ⟨_,rfl⟩;obtain ⟨pc,hpc⟩ : ∃ pc,pc = fK ⟨kc,c1,c2,c3⟩ := ⟨_,rfl⟩;rw [← hpa] at HPA;rw [← hpb] at HPB;rw [← hpc] at HPC;have HFITS := Hd (show (⟨pa,pb,pc⟩ : D3).fits from ⟨by rw [hpa]; exact hfa,by rw [hpb]; exact hfb,by rw [hpc]; exact hfc⟩);clear hpa hpb hpc hfa hfb hfc;obtain ⟨pak,pa1,pa2,pa3⟩ := pa;obtain ⟨pbk,pb1,pb2,pb3⟩ := pb;obtain ⟨pck,pc1,pc2,pc3⟩ := pc;dsimp only at HPA HPB HPC;have hbk := (Blk.new wo 69 #[.int .i64 ka,.string a1,.string a2,.string a3,.int .i64 kb,.string b1,.string b2,.string b3,.int .i64 kc,.string c1,.string c2,.string c3]).fr HFJ.out id;have HSX := Hd (show ∀ wy,Fr (fun j => j ≠ wo.heap.size) wr wy → wy.cell? ⟨wo.heap.size,0,none⟩ = some (.int .i64 ka) ∧ wy.cell? ⟨wo.heap.size,1,none⟩ = some (.string a1) ∧ wy.cell? ⟨wo.heap.size,2,none⟩ = some (.string a2) ∧ wy.cell? ⟨wo.heap.size,3,none⟩ = some (.string a3) ∧ wy.cell? ⟨wo.heap.size,4,none⟩ = some (.int .i64 kb) ∧ wy.cell? ⟨wo.heap.size,5,none⟩ = some (.string b1) ∧ wy.cell? ⟨wo.heap.size,6,none⟩ = some (.string b2) ∧ wy.cell? ⟨wo.heap.size,7,none⟩ = some (.string b3) ∧ wy.cell? ⟨wo.heap.size,8,none⟩ = some (.int .i64 kc) ∧ wy.cell? ⟨wo.heap.size,9,none⟩ = some (.string c1) ∧ wy.cell? ⟨wo.heap.size,10,none⟩ = some (.string c2) ∧ wy.cell? ⟨wo.heap.size,11,none⟩ = some (.string c3) from fun wy hf => by
          obtain ⟨⟨x0,x1,x2,x3⟩,⟨x4,x5,x6,x7⟩,⟨x8,x9,x10,x11⟩⟩ := iB (hbk.fr hf (fun e => e rfl));exact ⟨x0,x1,x2,x3,x4,x5,x6,x7,x8,x9,x10,x11⟩)
         clear hbk;have hrow := aa HT (((Fr.refl (fun _ => False) wo).alloc _).trans' HFJ) ii;obtain ⟨A4,c4,hv4⟩ := ad hrow;subst hv4;have HROW := Hd hrow;have HFAR := Hd (fun k h => cU HT (k := k) h);clear hrow;go_wp2_with fail;refine wp_region_noPanic ?_;refine wp_region_held_drew (S := (fun wy => wy.cell? ⟨wo.heap.size,0,none⟩ = some (.int .i64 ka) ∧ wy.cell? ⟨wo.heap.size,1,none⟩ = some (.string a1) ∧ wy.cell? ⟨wo.heap.size,2,none⟩ = some (.string a2) ∧ wy.cell? ⟨wo.heap.size,3,none⟩ = some (.string a3) ∧ wy.cell? ⟨wo.heap.size,4,none⟩ = some (.int .i64 kb) ∧ wy.cell? ⟨wo.heap.size,5,none⟩ = some (.string b1) ∧ wy.cell? ⟨wo.heap.size,6,none⟩ = some (.string b2) ∧ wy.cell? ⟨wo.heap.size,7,none⟩ = some (.string b3) ∧ wy.cell? ⟨wo.heap.size,8,none⟩ = some (.int .i64 kc) ∧ wy.cell? ⟨wo.heap.size,9,none⟩ = some (.string c1) ∧ wy.cell? ⟨wo.heap.size,10,none⟩ = some (.string c2) ∧ wy.cell? ⟨wo.heap.size,11,none⟩ = some (.string c3))) kr ?_ (fun hHeld => ?_)
         · try dsimp only
           exact HSX _ (Fr.refl (fun j => j ≠ wo.heap.size) wr).drew
         refine oT 0 ?_;refine oT 1 ?_;refine oT 2 ?_;refine oT 4 ?_;refine oT 5 ?_;refine oT 7 ?_;refine oT 8 ?_;refine oR [3] ?_;refine oC (fun K hK => ?_) ?_
         · go_simp;go_at_call 69;refine (HPA _).mono ?_;rintro e_a w_a ⟨rfl,hf_a⟩;have F_a : Fr (fun j => j ≠ wo.heap.size) wr w_a := (hf_a.mono uu).drew_l;refine oK hK ?_ fun hHeld => ?_
           · try dsimp only
             exact HSX _ F_a
           clear hK K;refine oR [6] ?_;refine oC (fun K hK => ?_) ?_
           · go_simp;go_at_call 69;refine (HPB _).mono ?_;rintro e_b w_b ⟨rfl,hf_b⟩;have F_b : Fr (fun j => j ≠ wo.heap.size) wr w_b := F_a.trans hf_b uu;refine oK hK ?_ fun hHeld => ?_
             · try dsimp only
               exact HSX _ F_b
             clear hK K;refine oR [9] ?_;refine oC (fun K hK => ?_) ?_
             · go_simp;go_at_call 69;refine (HPC _).mono ?_;rintro e_c w_c ⟨rfl,hf_c⟩;have F_c : Fr (fun j => j ≠ wo.heap.size) wr w_c := F_b.trans hf_c uu;have G_c : Fr (fun _ => False) wr w_c := (hf_a.drew_l.trans' hf_b).trans' hf_c;refine oK hK ?_ fun hHeld => ?_
               · try dsimp only
                 exact HSX _ F_c
               clear hK K;refine oT 10 ?_;refine oR [11] ?_;refine oC (fun K hK => ?_) ?_
               · go_simp;refine oK hK ?_ fun hHeld => ?_
                 · try dsimp only
                   exact HSX _ (F_c.alloc _)
                 clear hK K;refine oR [12] ?_;refine oC (fun K hK => ?_) ?_
                 · obtain ⟨i69,hi69,hz690,hz691,hz692⟩ := info_parts pN;have hnew : (w_c.alloc (.cells #[.int .i64 pak,.string pa1,.string pa2,.string pa3,.int .i64 pbk,.string pb1,.string pb2,.string pb3,.int .i64 pck,.string pc1,.string pc2,.string pc3] 69)).ownsRow w_c.heap.size 69 12 (.slice (some ⟨w_c.heap.size,0,none⟩) 1 1) 1 (#[.int .i64 pak,.string pa1,.string pa2,.string pa3,.int .i64 pbk,.string pb1,.string pb2,.string pb3,.int .i64 pck,.string pc1,.string pc2,.string pc3] : Array Value).toList := ⟨rfl,.inr ⟨w_c.heap.size,1,#[.int .i64 pak,.string pa1,.string pa2,.string pa3,.int .i64 pbk,.string pb1,.string pb2,.string pb3,.int .i64 pck,.string pc1,.string pc2,.string pc3],rfl,Nat.le_refl _,Blk.new w_c 69 _,Nat.le_refl _,by decide,rfl,rfl⟩⟩;have hold := aa HROW (G_c.alloc (.cells #[.int .i64 pak,.string pa1,.string pa2,.string pa3,.int .i64 pbk,.string pb1,.string pb2,.string pb3,.int .i64 pck,.string pc1,.string pc2,.string pc3] 69)) ii;refine fV rfl _ _ 22 (by rfl) 69 i69 _ 12 _ underlying22 hi69 hz690 hz691 hz692 rfl de w.heap.size zs.length 1 _ _ _ _ _ (by rfl) (by rfl) hold hnew (yU ⟨⟨pak,pa1,pa2,pa3⟩,⟨pbk,pb1,pb2,pb3⟩,⟨pck,pc1,pc2,pc3⟩⟩) (by unfold maxLen; have := HZ.out; omega) (by have := HZ.out; omega) (by have := HF.size; have := HFJ.size; have := G_c.size; simp at *; omega) ?_;intro v6 w6 hown6 hgr6;have F6 := Fr.of_grown hgr6;have F_e : Fr (fun j => j ≠ wo.heap.size) wr w6 := (F_c.alloc (.cells #[.int .i64 pak,.string pa1,.string pa2,.string pa3,.int .i64 pbk,.string pb1,.string pb2,.string pb3,.int .i64 pck,.string pc1,.string pc2,.string pc3] 69)).trans F6 (fun j hj e => by intro h; have := HFAR.out j e; omega);have H_e : Fr (fun j => w.heap.size ≤ j) w w6 := ((HF.alloc _).trans HFJ.out uu).trans ((G_c.alloc (.cells #[.int .i64 pak,.string pa1,.string pa2,.string pa3,.int .i64 pbk,.string pb1,.string pb2,.string pb3,.int .i64 pck,.string pc1,.string pc2,.string pc3] 69)).mono (T := fun j => w.heap.size ≤ j) uu |>.trans F6 (fun j hj e => (HROW.lt j e).1)) ii;refine oK hK ?_ fun hHeld => ?_
                   · try dsimp only
                     exact HSX _ F_e
                   clear hK K;refine oR [13] ?_;refine oC (fun K hK => ?_) ?_
                   · go_simp;refine oK hK ?_ fun hHeld => ?_
                     · try dsimp only
                       exact HSX _ F_e
                     clear hK K;refine oD (NoPanic.normal ?_);go_wp2_with fail;go_roundw
                     case rel => exact ⟨i + 1,zs ++ [⟨⟨pak,pa1,pa2,pa3⟩,⟨pbk,pb1,pb2,pb3⟩,⟨pck,pc1,pc2,pc3⟩⟩],by go_num,by omega,by omega,by rw [List.length_append,HZ.out]; rfl,by unfold mD; rw [List.length_append,List.flatMap_append]; exact hown6,fun d hd => by (rcases List.mem_append.1 hd with h | h; exact HFT.out d h; rw [List.mem_singleton.1 h]; exact HFITS),H_e⟩
                     case measure => simp only [intOf]; omega
                   exact .nil
                 exact .nil
               exact .nil
             exact .nil
           exact .nil
         exact .nil
  · have hlt' : ¬ (i : Int) < (len : Int) := jj;have HZZ := HZ.out;clear hts hfit hf hzl;go_wp2_with fail;go_ret2;exact ⟨_,true,zs,rfl,HT,by omega,HFT,HF.shut (Nat.le_refl _)⟩
theorem yV : ∀ (L : List D3) (j m : Nat),m < 12 → (L.flatMap D3.list)[j * 12 + m]? = (L[j]?).bind (fun d => d.list[m]?)
 | [],j,m,_ => by simp
 | a :: L,0,m,hm => by
  rw [List.flatMap_cons,Nat.zero_mul,Nat.zero_add,List.getElem?_append_left (show m < 12 from hm)];rfl
 | a :: L,j + 1,m,hm => by
  rw [List.flatMap_cons,List.getElem?_append_right (show 12 ≤ (j + 1) * 12 + m by omega),show (j + 1) * 12 + m - a.list.length = j * 12 + m from by show (j + 1) * 12 + m - 12 = _; omega,yV L j m hm];rfl
theorem ox {n : Nat} {L : List D3} (h : w.ownsRow B 69 12 (.slice (some ⟨g,0,none⟩) n c) n (L.flatMap D3.list)) {j : Nat} {d : D3} (hl : L[j]? = some d) : w.rangeAt g (j * 12) d.list := by
 intro m v hv;have hm : m < 12 := (List.getElem?_eq_some_iff.1 hv).1;have hf := yV L j m hm;rw [hl] at hf;have hf : (L.flatMap D3.list)[j * 12 + m]? = some v := hf.trans hv;have hc := h.cells (g := g) rfl _ _ hf;rw [Addr.add_lit,Nat.zero_add] at hc;exact hc
def yW (w : World) (e : Ending) (w' : World) : Prop :=
 ∃ (v : Value) (zs : List D3),e = .returned v ∧ mD w' w.heap.size v zs ∧ zs.length ≤ 5 ∧ (∀ d ∈ zs,d.fits ∧ d.ok = true) ∧ Fr (fun _ => False) w w'
theorem ws (a : Option Addr) (len cap : Nat) (w : World) (hin : mB w a len) (hlen : len ≤ maxLen) : Calls prog 7 #[.slice a len cap] w (yW w) := by
 have HFEW := Hd (B5 a len cap w hin hlen);obtain ⟨i69,hi69,hz690,hz691,hz692⟩ := info_parts pN;clear hin hlen;go_enter func7,ntmps7;go_wp2_with fail;refine HFEW.mono ?_;rintro e w1 ⟨vm,ok,ms,rfl,hms,hm10,hmf,hf1⟩;obtain ⟨AM,cm,hvm⟩ := ad hms;subst hvm;have HMS := Hd hms;have HMF := Hd hmf;have HF1 := Hd hf1;clear hms hmf hf1;obtain ⟨n,hn⟩ : ∃ n,n = ms.length := ⟨_,rfl⟩;have HN := Hd hn;rw [← hn] at hm10 ⊢;clear hn;go_wp2_with fail
 go_loopw [5,15] (fun v iv wr => ∃ (i : Nat) (zs : List D3),iv = .int .i64 (i : Int) ∧ i ≤ n ∧ zs.length ≤ 5 ∧ mD wr w1.heap.size v zs ∧ (∀ d ∈ zs,d.fits ∧ d.ok = true) ∧ Fr (fun j => w1.heap.size ≤ j) w1 wr) (fun _ iv _ => 10 - (intOf iv).toNat)
 case atStart => exact ⟨0,[],rfl,Nat.zero_le _,Nat.zero_le _,World.ownsRow_nil _ _ _ _,fun d h => absurd h (by simp),Fr.refl _ _⟩
 case round =>
  obtain ⟨i,zs,rfl,hi,hzl,hts,hfit,hf⟩ := hrel;have HT := Hd hts;have HFT := Hd hfit;have HF := Hd hf;obtain ⟨A4,c4,hv4⟩ := ad hts;subst hv4;by_cases hlt : i < n
  · have hlt' : (i : Int) < (n : Int) := jj;have hmw := aa HMS.out hf (fun k hk h => by have := cU HMS (k := k) hk; omega);obtain ⟨g,rfl,_,_,_⟩ := ar hmw (by rw [← HN.out]; omega);obtain ⟨d,hd⟩ : ∃ d,ms[i]? = some d := ⟨_,List.getElem?_eq_getElem (by rw [← HN.out]; exact hlt)⟩;have hr := ox hmw hd;have hdf := HMF.out d (List.mem_of_getElem? hd);have HG := Hd (fun w => yR d w hdf.1 hdf.2.1 hdf.2.2);have HDF := Hd hdf;obtain ⟨g1,hg1⟩ : ∃ g1,g1 = d.ok := ⟨_,rfl⟩;rw [← hg1] at HG;have HG1 := Hd hg1;obtain ⟨⟨ka,a1,a2,a3⟩,⟨kb,b1,b2,b3⟩,⟨kc,c1,c2,c3⟩⟩ := d;have HR := Hd (show wr.rangeAt g (i * 12) [.int .i64 ka,.string a1,.string a2,.string a3,.int .i64 kb,.string b1,.string b2,.string b3,.int .i64 kc,.string c1,.string c2,.string c3] from hr);unfold D3.cells at HG;dsimp only at HG;clear hts hfit hf hr hmw hd hdf hg1;cases ok with
    | false =>
     go_wp2_with (refine wpList_load_mid rfl 69 _ rfl g (i * 12) rfl _ _ HR.out underlying69 rfl mE ?_);go_roundw
     case rel => exact ⟨i + 1,zs,by go_num,by omega,hzl,aa HT ((Fr.refl (fun _ => False) wr).alloc _) ii,HFT,HF.alloc _⟩
     case measure => simp only [intOf]; omega
    | true =>
     go_wp2_with (refine wpList_load_mid rfl 69 _ rfl g (i * 12) rfl _ _ HR.out underlying69 rfl mE ?_);refine (HG _).mono ?_;rintro e w2 ⟨rfl,hf2⟩;have FA : Fr (fun _ => False) wr w2 := ((Fr.refl (fun _ => False) wr).alloc _).trans' hf2;have hbk := (Blk.new wr 69 #[.int .i64 ka,.string a1,.string a2,.string a3,.int .i64 kb,.string b1,.string b2,.string b3,.int .i64 kc,.string c1,.string c2,.string c3]).fr hf2 id;obtain ⟨⟨y0,y1,y2,y3⟩,⟨y4,y5,y6,y7⟩,⟨y8,y9,y10,y11⟩⟩ := iB hbk;have HFA := Hd FA;clear hf2 hbk FA;cases g1 with
     | false =>
      go_wp2_with fail;go_roundw
      case rel => exact ⟨i + 1,zs,by go_num,by omega,hzl,aa HT.out HFA.out ii,HFT,HF.trans HFA.out uu⟩
      case measure => simp only [intOf]; omega
     | true =>
      by_cases h5 : zs.length < 5
      · have h5' : (zs.length : Int) < 5 := jj;have hnew : (w2.alloc (.cells #[.int .i64 ka,.string a1,.string a2,.string a3,.int .i64 kb,.string b1,.string b2,.string b3,.int .i64 kc,.string c1,.string c2,.string c3] 69)).ownsRow w2.heap.size 69 12 (.slice (some ⟨w2.heap.size,0,none⟩) 1 1) 1 (#[.int .i64 ka,.string a1,.string a2,.string a3,.int .i64 kb,.string b1,.string b2,.string b3,.int .i64 kc,.string c1,.string c2,.string c3] : Array Value).toList := ⟨rfl,.inr ⟨w2.heap.size,1,#[.int .i64 ka,.string a1,.string a2,.string a3,.int .i64 kb,.string b1,.string b2,.string b3,.int .i64 kc,.string c1,.string c2,.string c3],rfl,Nat.le_refl _,Blk.new w2 69 _,Nat.le_refl _,by decide,rfl,rfl⟩⟩;have hold := aa HT (HFA.alloc (.cells #[.int .i64 ka,.string a1,.string a2,.string a3,.int .i64 kb,.string b1,.string b2,.string b3,.int .i64 kc,.string c1,.string c2,.string c3] 69)) ii;have hszf := HF.size;have hszg := HFA.size;obtain ⟨v6,w6,hrun,hown6,hgr6⟩ := bu 22 22 69 i69 _ 12 _ underlying22 hi69 hz690 hz691 hz692 rfl de w1.heap.size zs.length 1 _ _ _ _ _ hold hnew (yU ⟨⟨ka,a1,a2,a3⟩,⟨kb,b1,b2,b3⟩,⟨kc,c1,c2,c3⟩⟩) (by unfold maxLen; omega) jj (by simp; omega);have H_e := Hd (HF.trans ((HFA.alloc (.cells #[.int .i64 ka,.string a1,.string a2,.string a3,.int .i64 kb,.string b1,.string b2,.string b3,.int .i64 kc,.string c1,.string c2,.string c3] 69)).mono (T := fun j => w1.heap.size ≤ j) uu |>.trans (Fr.of_grown hgr6) (fun j hj e => (HT.lt j e).1)) ii);have HOWN := Hd hown6;clear hnew hold hgr6 hown6 hszf hszg;go_wp2_with (at_builtin; refine Lib.wpList_append_run _ rfl _ _ _ _ rfl _ _ rfl rfl _ _ hrun ?_);clear hrun;go_roundw
        case rel => exact ⟨i + 1,zs ++ [⟨⟨ka,a1,a2,a3⟩,⟨kb,b1,b2,b3⟩,⟨kc,c1,c2,c3⟩⟩],by go_num,by omega,by rw [List.length_append]; simp only [List.length_singleton]; omega,by unfold mD; rw [List.length_append,List.flatMap_append]; exact HOWN,fun d hd => by (rcases List.mem_append.1 hd with h | h; exact HFT.out d h; rw [List.mem_singleton.1 h]; exact ⟨HDF,HG1.symm⟩),H_e⟩
        case measure => simp only [intOf]; omega
      · have h5' : ¬ (zs.length : Int) < 5 := jj;go_wp2_with fail;go_roundw
        case rel => exact ⟨i + 1,zs,by go_num,by omega,hzl,aa HT.out HFA.out ii,HFT,HF.trans HFA.out uu⟩
        case measure => simp only [intOf]; omega
  · have hlt' : ¬ (i : Int) < (n : Int) := jj;clear hts hfit hf;go_wp2_with fail;go_ret;have hs1 := HF1.size;exact ⟨_,zs,rfl,ai HT.out hs1,hzl,HFT,(HF1.mono (T := fun j => w.heap.size ≤ j) uu).trans HF (fun j hj e => by omega) |>.shut (Nat.le_refl _)⟩
section
theorem aU.far {r : Nat} (h : aU w B b r vt ts room) {B' e s n : Nat} {v : Value} {xs : List Value} (hv : w.ownsRow B' e s v n xs) (h1 : e ≠ 114) (h2 : 75 ≠ e) :
    ∀ k,v.ownBlock = some k → ¬ (k = b ∨ k = r ∨ vt.ownBlock = some k) := fun k hk hn => by
 rcases hn with hn | hn | hn
 · exact ac hv h.blk h1 (by rw [hk,hn])
 · exact h.map.ne_row hv (by rw [hk,hn])
 · exact aw h.row hv h2 hn hk
theorem aU.farB {r : Nat} (h : aU w B b r vt ts room) {g : Nat} {t : TypeId} {cs : Array Value} (hv : Blk w g t cs) (h1 : t ≠ 114) (h2 : 75 ≠ t) : ¬ (g = b ∨ g = r ∨ vt.ownBlock = some g) := fun hn => by
 rcases hn with hn | hn | hn
 · subst hn;have h3 := h.blk;unfold Blk at hv h3;rw [hv] at h3;injection h3 with h3;injection h3 with _ h3 _;exact h1 h3
 · exact h.map.ne_blk hv hn
 · exact ac h.row hv h2 hn
theorem br.frS {S : Nat → Prop} (h : br w sb B r ls room) (hf : Fr S w w') (h1 : ¬ S sb) (h2 : ∀ o,o < 3 → ∀ k,(r o).ownBlock = some k → ¬ S k) : br w' sb B r ls room :=
 ⟨h.blk.fr hf h1,fun o ho => (h.row o ho).fr hf (h2 o ho),h.srt,h.few,h.far⟩
theorem br.base {B' : Nat} (h : br w sb B r ls room) (hB : B' ≤ B) : br w sb B' r ls room :=
 ⟨h.blk,fun o ho => ai (h.row o ho) hB,h.srt,h.few,h.far⟩
structure fL (w wr : World) (db rd sb nt i : Nat) (vt : Value) (ts : List Tm) (r : Nat → Value) (ls : Nat → List Edge) (v : Value) (os : List D3) : Prop where
 dict : aU wr w.heap.size db rd vt ts 65536
 st : br wr sb w.heap.size r ls 100
 out : mD wr w.heap.size v os
 tl : ts.length ≤ nt
 ll : ∀ o,o < 3 → (ls o).length ≤ i
 same : ∀ o,o < 3 → ∀ e,e ∈ ls o ↔ e ∈ ls 0
 num : ∀ e ∈ ls 0,(0 ≤ e.1 ∧ 0 ≤ e.2.1 ∧ 0 ≤ e.2.2) ∧ (e.1 < ts.length ∧ e.2.1 < ts.length ∧ e.2.2 < ts.length)
 ol : os.length ≤ i
 sbw : w.heap.size ≤ sb
 fr : Fr (fun j => w.heap.size ≤ j) w wr
variable {w wr w' : World} {db rd sb nt i : Nat} {vt : Value} {ts : List Tm} {r : Nat → Value} {ls : Nat → List Edge} {v : Value} {os : List D3}
theorem fL.frF (h : fL w wr db rd sb nt i vt ts r ls v os) (hf : Fr (fun _ => False) wr w') : fL w w' db rd sb nt i vt ts r ls v os :=
 ⟨h.dict.frF hf,h.st.fr hf,aa h.out hf ii,h.tl,h.ll,h.same,h.num,h.ol,h.sbw,h.fr.trans hf uu⟩
theorem fL.key {nt' : Nat} {vt' : Value} {ts' : List Tm} (h : fL w wr db rd sb nt i vt ts r ls v os) (hd : aU w' w.heap.size db rd vt' ts' 65536) (hf : Fr (fun j => j = db ∨ j = rd ∨ vt.ownBlock = some j) wr w') (h1 : ts.length ≤ ts'.length) (h2 : ts'.length ≤ nt') : fL w w' db rd sb nt' i vt' ts' r ls v os :=
 ⟨hd,h.st.frS hf (h.dict.farB h.st.blk de de) (fun o ho => h.dict.far (h.st.row o ho) de de),aa h.out hf (h.dict.far h.out de de),h2,h.ll,h.same,
  fun e he => ⟨(h.num e he).1,by have := (h.num e he).2; omega⟩,h.ol,h.sbw,h.fr.trans hf (fun j _ e => by
   rcases e with e | e | e
   · have := h.dict.leb; omega
   · have := h.dict.ler; omega
   · exact (h.dict.row.lt j e).1)⟩
theorem fL.add {k : Edge} (h : fL w wr db rd sb nt i vt ts r ls v os) (ha : Cs sb w.heap.size r ls 100 k wr w') (h0 : 0 ≤ k.1 ∧ 0 ≤ k.2.1 ∧ 0 ≤ k.2.2) (h1 : k.1 < ts.length ∧ k.2.1 < ts.length ∧ k.2.2 < ts.length) : ∃ r',fL w w' db rd sb nt (i + 1) vt ts r' (fun o => gW o (ls o) k) v os := by
 obtain ⟨r',hs,hf,hfar⟩ := ha;have hd := h.dict.farB h.st.blk de de;have hr := fun o ho => h.dict.far (h.st.row o ho) de de;have hno : ∀ x,(x = db ∨ x = rd ∨ vt.ownBlock = some x) → ¬ SK sb r x := fun x hx hk => by
  rcases hk with rfl | ⟨o,ho,hk⟩
  · exact hd hx
  · exact hr o ho x hk hx
 refine ⟨r',h.dict.fr hf (hno _ (.inl rfl)) (hno _ (.inr (.inl rfl))) (fun x hx => hno x (.inr (.inr hx))),hs,aa h.out hf (fun x hx hk => ?_),h.tl,fun o ho => by rw [jz]; have := h.ll o ho; omega,fun o ho e => ?_,fun e he => ?_,by have := h.ol; omega,h.sbw,h.fr.trans hf (fun j _ e => ?_)⟩
 · rcases hk with rfl | ⟨o,ho,hk⟩
   · exact ac h.out h.st.blk de hx
   · exact aw h.out (h.st.row o ho) de hx hk
 · rw [lM,lM,h.same o ho]
 · rcases lM.1 he with rfl | he
   · exact ⟨h0,h1⟩
   · exact h.num e he
 · rcases e with rfl | ⟨o,ho,hk⟩
   · exact h.sbw
   · exact ((h.st.row o ho).lt j hk).1
theorem fL.skip (h : fL w wr db rd sb nt i vt ts r ls v os) : fL w wr db rd sb nt (i + 1) vt ts r ls v os :=
 ⟨h.dict,h.st,h.out,h.tl,fun o ho => by have := h.ll o ho; omega,h.same,h.num,by have := h.ol; omega,h.sbw,h.fr⟩
theorem fL.push {d : D3} (h : fL w wr db rd sb nt i vt ts r ls v os) (ho : mD w' w.heap.size v6 (os ++ [d])) (hg : wr.grownBy w' v.ownBlock) (hi : os.length + 1 ≤ i) : fL w w' db rd sb nt i vt ts r ls v6 (os ++ [d]) := by
 have hf := Fr.of_grown hg;exact ⟨h.dict.fr hf (fun e => h.dict.far h.out de de _ e (.inl rfl)) (fun e => h.dict.far h.out de de _ e (.inr (.inl rfl))) (fun x hx e => h.dict.far h.out de de _ e (.inr (.inr hx))),
  h.st.frS hf (fun e => ac h.out h.st.blk de e) (fun o ho k hk e => aw h.out (h.st.row o ho) de e hk),ho,h.tl,h.ll,h.same,h.num,by rw [List.length_append]; exact hi,h.sbw,h.fr.trans hf (fun j _ e => (h.out.lt j e).1)⟩
/-! numbers -/
theorem uK : ∀ {j : Nat},eY ts t = some j → j < ts.length := by
 induction ts with
 | nil => intro j h; cases h
 | cons u us ih =>
  intro j h;unfold eY at h;split at h
  · injection h with h;subst h;simp
  · cases hx : eY us t with
    | none => rw [hx] at h; cases h
    | some q =>
     rw [hx] at h;injection h with h;have := ih hx;simp only [List.length_cons];simp at h;omega
theorem B6 (hg : t.good = true) (hr : (ts.length : Int) < room) : 0 ≤ qa ts t room ∧ qa ts t room < (mN ts t room).length := by
 unfold qa mN;rw [if_pos hg,if_pos hg];split
 · rename_i j hj;have := uK hj;omega
 · rw [if_neg jj,if_neg jj,List.length_append];simp only [List.length_singleton];omega
theorem pO (T : Nat → Tm) (ts : List Tm) (room : Int) : ∀ k m,k ≤ m → (e7 T ts room k).length ≤ (e7 T ts room m).length
 | k,0,h => by
  obtain rfl : k = 0 := jj;exact Nat.le_refl _
 | k,m + 1,h => by
  by_cases e : k = m + 1
  · subst e; exact Nat.le_refl _
  · exact Nat.le_trans (pO T ts room k m jj) (uI (e7 T ts room m) (T m) room).2
theorem B7 (T : Nat → Tm) (ts : List Tm) (room : Int) (hg : ∀ k,(T k).good = true) (hr : (ts.length : Int) + 3 ≤ room) (k : Nat) (hk : k < 3) : 0 ≤ eV T ts room k ∧ eV T ts room k < (e7 T ts room 3).length := by
 have h1 := kV T ts room k;have h2 := B6 (ts := e7 T ts room k) (room := room) (hg k) jj;have h3 : (e7 T ts room (k + 1)).length ≤ (e7 T ts room 3).length := pO T ts room (k + 1) 3 jj;have h4 : (mN (e7 T ts room k) (T k) room).length ≤ (e7 T ts room 3).length := h3;exact ⟨h2.1,by unfold eV; omega⟩
end
section
structure Dat (w : World) (db rd sb : Nat) (vt : Value) (ts : List Tm) (r : Nat → Value) (ls : Nat → List Edge) : Prop where
 dict : aU w 0 db rd vt ts 65536
 st : br w sb 0 r ls 100
 pl : Pl w
 ch : Ch w
 ll : ∀ o,o < 3 → (ls o).length ≤ 5
 same : ∀ o,o < 3 → ∀ e,e ∈ ls o ↔ e ∈ ls 0
 num : ∀ e ∈ ls 0,(0 ≤ e.1 ∧ 0 ≤ e.2.1 ∧ 0 ≤ e.2.2) ∧ (e.1 < ts.length ∧ e.2.1 < ts.length ∧ e.2.2 < ts.length)
theorem Dat.frF (h : Dat w db rd sb vt ts r ls) (hf : Fr (fun _ => False) w w') : Dat w' db rd sb vt ts r ls :=
 ⟨h.dict.frF hf,h.st.fr hf,h.pl.fr hf id,h.ch.fr hf id,h.ll,h.same,h.num⟩
theorem Dat.ev {eb : Nat} {ma : Option Nat} (h : Dat w db rd sb vt ts r ls) (hE : Blk w eb 95 #[.pointer (some ⟨db,0,none⟩),.pointer (some ⟨sb,0,none⟩),.map ma,.int .i64 0]) : EvC w eb db sb ma 0 rd vt ts 65536 0 r ls 100 :=
 ⟨hE,h.dict,h.st,h.pl,h.ch⟩
section
variable {ts : List Tm} {ls : Nat → List Edge}
theorem yX (h0 : ∀ k ∈ ls 0,0 ≤ k.1 ∧ 0 ≤ k.2.1 ∧ 0 ≤ k.2.2) : aT ls (-1) = ls 0 := by
 unfold aT;rw [show bh (-1) = 0 from rfl,show max (-1 : Int) 0 = 0 from rfl,vA h0,List.drop_zero];have : ∀ l : List Edge,l.takeWhile (j7 (-1)) = l := fun l => by
  induction l with
  | nil => rfl
  | cons a l ih => rw [List.takeWhile_cons,show j7 (-1) a = true from rfl,if_pos rfl,ih]
 exact this _
theorem Ef {n : Int} (hn : 0 ≤ n) : aT ls n = ub (ls 1) n := by
 unfold aT ub;rw [show bh n = 1 from by unfold bh; rw [if_neg jj],show max n 0 = n by omega];congr 1;funext k;unfold j7;rw [decide_eq_decide];omega
theorem rF (h : ∀ o,o < 3 → (ls o).length ≤ 5) (n : Int) : (aT ls n).length ≤ 5 := by
 have h1 : (aT ls n).length ≤ (ls (bh n)).length := by
  unfold aT;refine Nat.le_trans (List.takeWhile_sublist _).length_le ?_;rw [List.length_drop];omega
 exact Nat.le_trans h1 (h _ (by unfold bh; split <;> decide))
theorem scanOf0 (n : Int) (k : Edge) (h : k ∈ aT ls n) : k ∈ ls (bh n) := by
 unfold aT at h;exact (List.drop_sublist _ _).mem ((List.takeWhile_sublist _).mem h)
end
def au (ts : List Tm) (ls : Nat → List Edge) (n : Int) : List Edge := if n < ts.length then aT ls n else []
theorem tB (u : ByteArray) : py ts ls u = au ts ls (af ts u) := by
 unfold py au af;by_cases h : eH ts (.iri u) = 0
 · rw [if_pos h,if_pos h,if_pos];unfold eH at h;unfold dM;split at h
   · rename_i hg;rw [if_pos hg.1];obtain ⟨j,hj⟩ := Option.isSome_iff_exists.1 hg.2;rw [hj];have := uK hj;simp only [Option.getD_some];omega
   · omega
 · rw [if_neg h,if_neg h,if_neg jj]
theorem kW (u : ByteArray) : 0 ≤ af ts u := by
 unfold af dM;split
 · split <;> omega
 · omega
section
variable {w : World} {db rd sb : Nat} {vt : Value} {ts : List Tm} {r : Nat → Value} {ls : Nat → List Edge}
theorem Dat.pos (h : Dat w db rd sb vt ts r ls) : ∀ k ∈ ls 0,0 ≤ k.1 ∧ 0 ≤ k.2.1 ∧ 0 ≤ k.2.2 := fun k hk => (h.num k hk).1
theorem Dat.pos_scan (h : Dat w db rd sb vt ts r ls) (n : Int) : ∀ k ∈ aT ls n,0 ≤ k.1 ∧ 0 ≤ k.2.1 ∧ 0 ≤ k.2.2 := fun k hk =>
 h.pos k ((h.same _ (by unfold bh; split <;> decide) k).1 (scanOf0 n k hk))
theorem Dat.ofP (h : Dat w db rd sb vt ts r ls) (u : ByteArray) : OfP (au ts ls) (ls 0) (af ts u) := by
 intro k;unfold au;have hp := kW (ts := ts) u;split
 · rw [Ef hp,vz (h.st.srt 1 de) (fun k hk => h.pos k ((h.same 1 de k).1 hk)),h.same 1 de]
 · rename_i hn;constructor
   · intro hk; cases hk
   · rintro ⟨hk,e⟩;have := (h.num k hk).2.2.1;omega
theorem Dat.lenS (h : Dat w db rd sb vt ts r ls) (n : Int) : (au ts ls n).length ≤ 5 := by
 unfold au;split
 · exact rF h.ll n
 · exact Nat.zero_le _
end
structure VV (x y : ByteArray) (rev : Bool) (ss : List ByteArray) : Prop where
 nm : ∀ u,aC [(x,none),(⟨#[]⟩,some u),(y,none)] = [x,y]
 i0 : Lib.idxOfS [x,y] x = 0
 i1 : Lib.idxOfS [x,y] ⟨#[]⟩ = -1
 i2 : Lib.idxOfS [x,y] y = 1
 vars : ded (df [x,y]) = ss
 len : ss.length = 2
 ix : ∀ k,k < 2 → (if rev then 1 - k else k) < 2 ∧ [x,y].getD (if rev then 1 - k else k) ByteArray.empty = ss.getD k ByteArray.empty ∧ ∀ j,j < (if rev then 1 - k else k) → [x,y].getD j ByteArray.empty ≠ ss.getD k ByteArray.empty
theorem wt (rev : Bool) (l : List Edge) : (l.map fun k => [k.1,k.2.2]).map (dI (fun k => if rev then 1 - k else k) 2) = aB rev l := by
 unfold aB;rw [List.map_map];apply List.map_congr_left;intro k _;cases rev <;> rfl
theorem FR (V : VV x y rev ss) (eb db rd sb : Nat) (ma : Option Nat) (vt : Value) (ts : List Tm) (r : Nat → Value) (ls : Nat → List Edge) (z : Array Value) (w : World) (hD : Dat w db rd sb vt ts r ls) (hE : Blk w eb 95 #[.pointer (some ⟨db,0,none⟩),.pointer (some ⟨sb,0,none⟩),.map ma,.int .i64 0]) (hs : (Tm.iri u).short) (hz : z = (gJ x y 0 u none 0 0).toArray) :
    Calls prog 125 #[.pointer (some ⟨eb,0,none⟩),.agg z,fromV db sb ma] w (aQ w 2 ss (aB rev (au ts ls (af ts u)))) := by
 refine qX eb db sb ma x y u 2 ss _ z w hz fun W b hf hn => ?_;have h := Bw eb db sb ma 0 rd vt ts 65536 0 r ls 100 (fun k => if rev then 1 - k else k) x y u ss b W ((hD.frF hf).ev (hE.fr hf id)) hs (fun n => Nat.le_trans (rF hD.ll n) de) (fun n => hD.pos_scan n) hn (V.nm u) V.i0 V.i1 V.i2 V.vars V.len V.ix;rw [wt,tB] at h;exact h
theorem uL : VV vX vT true [vT,vX] := ⟨fun u => by rfl,by decide,by decide,by decide,by rw [bG (zs := [vT,vX]) de de]; rfl,rfl,by decide⟩
theorem yY : VV vT vY false [vT,vY] := ⟨fun u => by rfl,by decide,by decide,by decide,by rw [bG (zs := [vT,vY]) de de]; rfl,rfl,by decide⟩
theorem Ft : VV vY vT true [vT,vY] := ⟨fun u => by rfl,by decide,by decide,by decide,by rw [bG (zs := [vT,vY]) de de]; rfl,rfl,by decide⟩
theorem uM : VV vX vY false [vX,vY] := ⟨fun u => by rfl,by decide,by decide,by decide,by rw [bG (zs := [vX,vY]) de de]; rfl,rfl,by decide⟩
theorem Fu : VV vY vX true [vX,vY] := ⟨fun u => by rfl,by decide,by decide,by decide,by rw [bG (zs := [vX,vY]) de de]; rfl,rfl,by decide⟩
theorem Fv : VV vT vS true [vS,vT] := ⟨fun u => by rfl,by decide,by decide,by decide,by rw [bG (zs := [vS,vT]) de de]; rfl,rfl,by decide⟩
theorem Fw : VV vS vY false [vS,vY] := ⟨fun u => by rfl,by decide,by decide,by decide,by rw [bG (zs := [vS,vY]) de de]; rfl,rfl,by decide⟩
end
section
def tC (P : World → Nat → List Value → Prop) : Prop := ∀ w B cs,P w B cs → cs.length = 17 → (∃ kk : Int,cs[0]? = some (.int .i64 kk) ∧ ¬ kk = 1) ∧ aY 17 cs.toArray
theorem dZ (t : PT) (x y : ByteArray) : tC (cC t x y) := by
 rintro w B cs ⟨k,i,A,n,c,rfl,_⟩ hl;refine ⟨⟨0,rfl,by decide⟩,⟨by simpa using hl,all_oneCell_toArray (fun u hu => ?_)⟩⟩;unfold gJ at hu;simp only [List.mem_cons,List.not_mem_nil,or_false] at hu;rcases hu with rfl | rfl | rfl | rfl | rfl | rfl | rfl | rfl | rfl | rfl | rfl | rfl | rfl | rfl | rfl | rfl | rfl <;> rfl
theorem tD (Pa Pb : World → Nat → List Value → Prop) : tC (lZ Pa Pb) := by
 rintro w B cs ⟨A,c,va,vb,rfl,_⟩ hl;refine ⟨⟨4,rfl,by decide⟩,⟨by simpa using hl,all_oneCell_toArray (fun u hu => ?_)⟩⟩;unfold jI at hu;simp only [List.mem_cons,List.not_mem_nil,or_false] at hu;rcases hu with rfl | rfl | rfl | rfl | rfl | rfl | rfl | rfl | rfl | rfl | rfl | rfl | rfl | rfl | rfl | rfl | rfl <;> rfl
section
variable (db rd sb : Nat) (ma : Option Nat) (vt : Value) (ts : List Tm) (r : Nat → Value) (ls : Nat → List Edge)
def rG (P : World → Nat → List Value → Prop) (sa sc : List ByteArray) (ra rc : List (List Int)) : Prop :=
 ∀ (eb : Nat) (w : World) (cs : List Value) (V : Option Addr) (c : Nat) (vr : Value),Dat w db rd sb vt ts r ls → Blk w eb 95 #[.pointer (some ⟨db,0,none⟩),.pointer (some ⟨sb,0,none⟩),.map ma,.int .i64 0] → P w 0 cs → cs.length = 17 → aL w 0 sa.length (.agg #[.slice V sa.length c,vr]) sa ra →
  Calls prog 72 #[.pointer (some ⟨eb,0,none⟩),.agg #[.slice V sa.length c,vr],.agg cs.toArray,fromV db sb ma] w (cS (fun R => R = rc) sc.length sc w)
theorem jh (Ps : List (World → Nat → List Value → Prop)) (SS : Nat → List ByteArray) (Rr : Nat → List (List Int)) (h0 : SS 0 = [] ∧ Rr 0 = [[]]) (hn : Ps.length ≤ 9) (hM : 0 < (SS Ps.length).length ∧ (SS Ps.length).length ≤ 9) (hR : (Rr Ps.length).length ≤ 4096 ∧ ∀ x ∈ Rr Ps.length,x.length = (SS Ps.length).length)
    (HL : ∀ P ∈ Ps,cO P) (HO : ∀ P ∈ Ps,tC P) (HI : ∀ i P,Ps[i]? = some P → rG db rd sb ma vt ts r ls P (SS i) (SS (i + 1)) (Rr i) (Rr (i + 1))) (eb : Nat) (v : Value) (w : World) (hD : Dat w db rd sb vt ts r ls) (hE : Blk w eb 95 #[.pointer (some ⟨db,0,none⟩),.pointer (some ⟨sb,0,none⟩),.map ma,.int .i64 0]) (hG : aH Ps w 0 v) :
    Calls prog 26 #[.pointer (some ⟨eb,0,none⟩),.agg #[v],fromV db sb ma] w (cS (fun R => R = Rr Ps.length) (SS Ps.length).length (SS Ps.length) w) := by
 obtain ⟨A,c,css,rfl,hl,hr,hi⟩ := hG;have hP : ∀ (i : Nat) (cs : List Value),css[i]? = some cs → ∃ P,Ps[i]? = some P ∧ cs.length = 17 ∧ P w 0 cs := fun i cs hcs => by
  have hlt : i < Ps.length := by
   have := (List.getElem?_eq_some_iff.1 hcs).1;omega
  exact ⟨Ps[i],List.getElem?_eq_getElem hlt,hi i _ cs (List.getElem?_eq_getElem hlt) hcs⟩
 have hall : ∀ l ∈ css,l.length = 17 ∧ (∃ kk : Int,l[0]? = some (.int .i64 kk) ∧ ¬ kk = 1) ∧ aY 17 l.toArray := fun l hml => by
  obtain ⟨i,hil⟩ := List.getElem?_of_mem hml;obtain ⟨P,hPi,h17,hp⟩ := hP i l hil;exact ⟨h17,HO P (List.mem_of_getElem? hPi) w 0 l hp h17⟩
 refine uG eb db sb ma A Ps.length c 0 css (fun i => (SS i).length) SS (fun i R => R = Rr i) _ _ _ w hE hn ⟨hl,hr,fun l hml => ⟨(hall l hml).1,(hall l hml).2.1⟩⟩ (fun l hml => (hall l hml).2.2) ⟨by rw [h0.1]; rfl,h0.1,h0.2.symm⟩ hM.1 hM.2 ?_ ?_
 · rintro R rfl;exact ⟨hR.1,fun k hk => hR.2 _ (eA hk)⟩
 · rintro i l hil W V cV vr R hf rfl hT;obtain ⟨P,hPi,h17,hp⟩ := hP i l hil;exact HI i P hPi eb W l V cV vr (hD.frF hf) (hE.fr hf id) ((HL P (List.mem_of_getElem? hPi)).low hp (hf.mono uu)) h17 hT
theorem iC {l : List Edge} {E : List Edge} (hp : ∀ k ∈ l,0 ≤ k.1 ∧ 0 ≤ k.2.1 ∧ 0 ≤ k.2.2) : ∀ x ∈ aB rev l,x.length = 2 ∧ ∀ n ∈ x,-1 ≤ n := by
 intro x hx;obtain ⟨k,hk,rfl⟩ := jP.1 hx;have := hp k hk;cases rev <;> simp <;> omega
theorem jR (h : Dat w db rd sb vt ts r ls) (n : Int) : ∀ k ∈ au ts ls n,0 ≤ k.1 ∧ 0 ≤ k.2.1 ∧ 0 ≤ k.2.2 := by
 unfold au;split
 · exact h.pos_scan n
 · intro k hk; cases hk
theorem aX {m : Nat} {V : Option Addr} {vr : Value} {R : List (List Int)} (h : aL w 0 m (.agg #[.slice V m c,vr]) ss R) : ∃ vals,w.ownsRow 0 9 1 (.slice V m c) m (ss.map .string) ∧ ak w 0 vr vals R := by
 obtain ⟨V',vc',vr',vals,e,hv,hr⟩ := h;cases e
 exact ⟨vals,hv,hr⟩
theorem km {mb : Nat} (J : JV sa sb' sc) (hmb : sb'.length = mb) (hra : ∀ x ∈ ra,x.length = sa.length ∧ ∀ n ∈ x,-1 ≤ n) (hrb : ∀ x ∈ rb,x.length = mb ∧ ∀ n ∈ x,-1 ≤ n) (hla : ra.length ≤ 4096) (hlb : rb.length ≤ 4096) (hll : ra.length * rb.length ≤ 4096) {eb : Nat} {d s mp : Value} {w : World} {V : Option Addr} {c : Nat} {vr : Value} (hE : Blk w eb 95 #[d,s,mp,.int .i64 0]) (hT : aL w 0 sa.length (.agg #[.slice V sa.length c,vr]) sa ra) :
    ∀ W V2 c2 vr2 R2,Fr (fun _ => False) w W → R2 = rb → aL W 0 mb (.agg #[.slice V2 mb c2,vr2]) sb' R2 → Calls prog 123 #[.pointer (some ⟨eb,0,none⟩),.agg #[.slice V sa.length c,vr],.agg #[.slice V2 mb c2,vr2]] W (cS (fun R => R = aN sa ra sb' rb sc) sc.length sc W) := by
 rintro W V2 c2 vr2 R2 hf rfl hT2;obtain ⟨vals,hv,hr⟩ := aX hT;obtain ⟨vals2,hv2,hr2⟩ := aX hT2;exact (Fs J rfl hmb rfl eb d s mp c c2 0 0 V V2 vr vr2 vals vals2 ra R2 W (hE.fr hf id) hra hrb hla hlb hll (aa hv hf ii) hv2 (hr.frF hf) hr2).mono (fun e w' h => ⟨_,rfl,h⟩)
theorem oy (V : VV x y rev sb') (J : JV sa sb' sc) (hs : (Tm.iri u).short) (hra : ∀ x ∈ ra,x.length = sa.length ∧ ∀ n ∈ x,-1 ≤ n) (hrl : ra.length ≤ 800) :
    rG db rd sb ma vt ts r ls (cC (.leaf 0 u) x y) sa sc ra (aN sa ra sb' (aB rev (au ts ls (af ts u))) sc) := by
 intro eb w cs VA c vr hD hE hP h17 hT;have hN := (dZ _ _ _ _ _ _ hP h17).2;obtain ⟨k,i,A,n,cc,rfl,hpa⟩ := hP;cases hpa
 obtain ⟨vals,hv,hr⟩ := aX hT;obtain ⟨A1,c1,e1⟩ := ad hr.own;have hlen : (aB rev (au ts ls (af ts u))).length ≤ 5 := by
  unfold aB;rw [List.length_map];exact hD.lenS _
 have hb := iC (rev := rev) (E := []) (jR db rd sb vt ts r ls hD (af ts u));refine kE eb db sb ma sa.length c 2 sc.length VA vr sb' sc (fun R => R = aB rev (au ts ls (af ts u))) _ _ _ _ _ w hE hN rfl ⟨A1,_,c1,e1⟩ (fun W hf => ?_) (fun R hR => ?_) (km J V.len hra hb jj jj ?_ hE hT)
 · exact (FR V eb db rd sb ma vt ts r ls _ W (hD.frF hf) (hE.fr hf id) hs rfl).mono (fun e w' h => ⟨_,rfl,h⟩)
 · rw [hR]; omega
 · exact Nat.le_trans (Nat.mul_le_mul hrl hlen) de
structure UV (ss : List ByteArray) : Prop where
 vars : fk ss ss = ss
 len : ss.length = 2
 i0 : my ss (ss.getD 0 ByteArray.empty) 0 true = true
 i1 : my ss (ss.getD 1 ByteArray.empty) 1 true = true
 j : JV [] ss ss
theorem iD (h2 : ∃ a b,ss = [a,b] ∧ a ≠ b) {T : List (List Int)} (hT : ∀ x ∈ T,x.length = 2 ∧ ∀ n ∈ x,-1 ≤ n) : aN ([] : List ByteArray) [[]] ss T ss = T := by
 obtain ⟨a,b,rfl,hab⟩ := h2;refine te _ _ fun y hy => ?_;obtain ⟨h1,h3⟩ := hT y hy
 match y,h1 with
 | [m,n],_ =>
  have hm := h3 m (by simp);have hn := h3 n (by simp);simp [cQ,hab];omega
theorem uN {T : List (List Int)} (hT : ∀ x ∈ T,x.length = 2 ∧ ∀ n ∈ x,-1 ≤ n) : T.map (aJ (fun k => (k,true)) 2) = T := by
 conv => rhs; rw [← List.map_id T]
 apply List.map_congr_left;intro y hy;obtain ⟨h1,_⟩ := hT y hy
 match y,h1 with
 | [m,n],_ => rfl
theorem Fx : UV [vX,vY] := ⟨by unfold fk; rw [bG (zs := [vX,vX,vY,vY]) de de]; rfl,rfl,by decide +kernel,by decide +kernel,jv2⟩
theorem Fy : UV [vT,vY] := ⟨by unfold fk; rw [bG (zs := [vT,vT,vY,vY]) de de]; rfl,rfl,by decide +kernel,by decide +kernel,jv3⟩
theorem yZ (V : VV x y rev ss) (J : JV [] ss ss) (h2 : ∃ a b,ss = [a,b] ∧ a ≠ b) (hs : (Tm.iri u).short) (eb : Nat) (v : Value) (w : World) (hD : Dat w db rd sb vt ts r ls) (hE : Blk w eb 95 #[.pointer (some ⟨db,0,none⟩),.pointer (some ⟨sb,0,none⟩),.map ma,.int .i64 0]) (hG : aH [cC (.leaf 0 u) x y] w 0 v) :
    Calls prog 26 #[.pointer (some ⟨eb,0,none⟩),.agg #[v],fromV db sb ma] w (cS (fun R => R = aB rev (au ts ls (af ts u))) 2 ss w) := by
 have hb := iC (rev := rev) (E := []) (jR db rd sb vt ts r ls hD (af ts u));have hu := iD h2 hb;have hl : (aB rev (au ts ls (af ts u))).length ≤ 5 := by
  unfold aB;rw [List.length_map];exact hD.lenS _
 have h := jh db rd sb ma vt ts r ls [cC (.leaf 0 u) x y] (fun i => if i = 0 then [] else ss) (fun i => if i = 0 then [[]] else aB rev (au ts ls (af ts u))) ⟨rfl,rfl⟩ (show 1 ≤ 9 by decide) (by show 0 < ss.length ∧ ss.length ≤ 9; rw [V.len]; decide) ⟨Nat.le_trans hl de,fun x hx => by show x.length = ss.length; rw [V.len]; exact (hb x hx).1⟩
  (fun P hP => by rw [List.mem_singleton.1 hP]; exact aF _ _ _) (fun P hP => by rw [List.mem_singleton.1 hP]; exact dZ _ _ _) (fun i P hP => by
   match i,hP with
   | 0,hP =>
    injection hP with hP;subst hP;have := oy db rd sb ma vt ts r ls (ra := [[]]) V J hs (fun x hx => by rw [List.mem_singleton.1 hx]; exact ⟨rfl,fun n hn => by cases hn⟩) de;rw [hu] at this;exact this
   | i + 1,hP => cases hP) eb v w hD hE hG
 have h' : Calls prog 26 #[.pointer (some ⟨eb,0,none⟩),.agg #[v],fromV db sb ma] w (cS (fun R => R = aB rev (au ts ls (af ts u))) ss.length ss w) := h;rw [V.len] at h';exact h'
theorem CG (V1 : VV x1 y1 r1 sb') (V2 : VV x2 y2 r2 sb') (U : UV sb') (h2 : ∃ a b,sb' = [a,b] ∧ a ≠ b) (J : JV sa sb' sc) (hs1 : (Tm.iri u1).short) (hs2 : (Tm.iri u2).short) (hra : ∀ x ∈ ra,x.length = sa.length ∧ ∀ n ∈ x,-1 ≤ n) (hrl : ra.length ≤ 400) :
    rG db rd sb ma vt ts r ls (lZ (cC (.leaf 0 u1) x1 y1) (cC (.leaf 0 u2) x2 y2)) sa sc ra (aN sa ra sb' (aB r1 (au ts ls (af ts u1)) ++ aB r2 (au ts ls (af ts u2))) sc) := by
 intro eb w cs VA c vr hD hE hP h17 hT;have hN := (tD _ _ _ _ _ hP h17).2;obtain ⟨A,cc,va,vb,rfl,hrow,hga,hgb⟩ := hP;have hga' := hga;have hgb' := hgb;obtain ⟨Aa,ca,cssa,rfl,_⟩ := hga';obtain ⟨Ab,cb,cssb,rfl,_⟩ := hgb';obtain ⟨vals,hv,hr⟩ := aX hT;obtain ⟨A1,c1,e1⟩ := ad hr.own;have hlen : ∀ rev n,(aB rev (au ts ls n)).length ≤ 5 := fun rev n => by
  unfold aB;rw [List.length_map];exact hD.lenS _
 have hb : ∀ rev u,∀ x ∈ aB rev (au ts ls (af ts u)),x.length = 2 ∧ ∀ n ∈ x,-1 ≤ n := fun rev u => iC (rev := rev) (E := []) (jR db rd sb vt ts r ls hD (af ts u));have hb12 : ∀ x ∈ aB r1 (au ts ls (af ts u1)) ++ aB r2 (au ts ls (af ts u2)),x.length = 2 ∧ ∀ n ∈ x,-1 ≤ n := fun x hx => (List.mem_append.1 hx).elim (hb r1 u1 x) (hb r2 u2 x);have hl12 : (aB r1 (au ts ls (af ts u1)) ++ aB r2 (au ts ls (af ts u2))).length ≤ 10 := by
  rw [List.length_append];have := hlen r1 (af ts u1);have := hlen r2 (af ts u2);omega
 have LA : cO (cC (.leaf 0 u1) x1 y1) := aF _ _ _;have LB : cO (cC (.leaf 0 u2) x2 y2) := aF _ _ _;refine tq eb db sb ma sa.length c 2 2 2 sc.length VA vr sb' sb' sb' sc (fun R => R = aB r1 (au ts ls (af ts u1))) (fun R => R = aB r2 (au ts ls (af ts u2))) (fun R => R = aB r1 (au ts ls (af ts u1)) ++ aB r2 (au ts ls (af ts u2))) _ _ _ _ _ A Aa Ab cc _ ca _ cb 0 w hE hN rfl rfl ⟨A1,_,c1,e1⟩ hrow (fun W hf => ?_) (fun W hf => ?_) ?_ (fun R hR => ?_) (km J U.len hra hb12 jj jj ?_ hE hT)
 · exact yZ db rd sb ma vt ts r ls V1 U.j h2 hs1 eb _ W (hD.frF hf) (hE.fr hf id) (hga.low (fun P hP => by rw [List.mem_singleton.1 hP]; exact LA) (hf.mono uu))
 · exact yZ db rd sb ma vt ts r ls V2 U.j h2 hs2 eb _ W (hD.frF hf) (hE.fr hf id) (hgb.low (fun P hP => by rw [List.mem_singleton.1 hP]; exact LB) (hf.mono uu))
 · rintro W Va cva vra Ra Vb cvb vrb Rb hf rfl rfl hTa hTb;obtain ⟨valsa,hva,hra'⟩ := aX hTa;obtain ⟨valsb,hvb,hrb'⟩ := aX hTb;have hU := xR (fun k => (k,true)) (fun k => (k,true)) 2 cva 2 cvb 2 0 0 0 0 Va Vb vra vrb valsa valsb sb' sb' sb' _ _ W U.vars U.len U.len U.len de de de
    (fun k hk => by rcases (by omega : k = 0 ∨ k = 1) with rfl | rfl; exact isVar_of U.i0; exact isVar_of U.i1) (fun k hk _ => hk) (fun k hk => by rcases (by omega : k = 0 ∨ k = 1) with rfl | rfl; exact isVar_of U.i0; exact isVar_of U.i1) (fun k hk _ => hk)
    (fX (hb r1 u1)) (fX (hb r2 u2)) (by have := hlen r1 (af ts u1); have := hlen r2 (af ts u2); omega) hva hvb hra' hrb'
   rw [uN (hb r1 u1),uN (hb r2 u2)] at hU;exact hU.mono (fun e w' h => ⟨_,rfl,h⟩)
 · rw [hR]; omega
 · exact Nat.le_trans (Nat.mul_le_mul hrl hl12) de
end
end
section
abbrev uP : ByteArray := ⟨#[117,58,112]⟩
abbrev uQ : ByteArray := ⟨#[117,58,113]⟩
abbrev uA : ByteArray := ⟨#[117,58,97]⟩
theorem B8 {x : List Int} (hx : ∀ n ∈ x,-1 ≤ n) (v : ByteArray) : -1 ≤ cQ ss x v := by
 induction ss generalizing x with
 | nil => cases x <;> exact Int.le_refl _
 | cons u us ih =>
  cases x with
  | nil => exact Int.le_refl _
  | cons n x =>
   unfold cQ;split
   · exact hx n (by simp)
   · exact ih (fun m hm => hx m (by simp [hm]))
theorem cB {sb : List ByteArray} (ha : ∀ x ∈ ra,∀ n ∈ x,-1 ≤ n) : ∀ x ∈ aN sa ra sb rb sc,x.length = sc.length ∧ ∀ n ∈ x,-1 ≤ n := by
 intro x hx;obtain ⟨y,hy,z,hz,_,rfl⟩ := iu.1 hx;unfold fJ;refine ⟨by simp,fun n hn => ?_⟩;obtain ⟨v,_,rfl⟩ := List.mem_map.1 hn;have := B8 (ss := sa) (ha y hy) v;omega
section
variable (db rd sb : Nat) (ma : Option Nat) (vt : Value) (ts : List Tm) (r : Nat → Value) (ls : Nat → List Edge)
theorem jS (hD : Dat w db rd sb vt ts r ls) (rev : Bool) (n : Int) : (aB rev (au ts ls n)).length ≤ 5 := by
 unfold aB;rw [List.length_map];exact hD.lenS _
theorem il (hD : Dat w db rd sb vt ts r ls) (rev : Bool) (u : ByteArray) : ∀ x ∈ aB rev (au ts ls (af ts u)),x.length = 2 ∧ ∀ n ∈ x,-1 ≤ n := iC (rev := rev) (E := []) (jR db rd sb vt ts r ls hD (af ts u))
theorem mF (V : VV x y rev ss) (J : JV [] ss ss) (h2 : ∃ a b,ss = [a,b] ∧ a ≠ b) (hs : (Tm.iri u).short) : rG db rd sb ma vt ts r ls (cC (.leaf 0 u) x y) [] ss [[]] (aB rev (au ts ls (af ts u))) := by
 intro eb w cs VA c vr hD hE hP h17 hT;have h := oy db rd sb ma vt ts r ls (ra := [[]]) V J hs (fun x hx => by rw [List.mem_singleton.1 hx]; exact ⟨rfl,fun n hn => by cases hn⟩) de eb w cs VA c vr hD hE hP h17 hT;rw [iD h2 (il db rd sb vt ts r ls hD rev u)] at h;exact h
theorem Eg (V1 : VV x1 y1 r1 ss) (V2 : VV x2 y2 r2 ss) (U : UV ss) (h2 : ∃ a b,ss = [a,b] ∧ a ≠ b) (hs1 : (Tm.iri u1).short) (hs2 : (Tm.iri u2).short) : rG db rd sb ma vt ts r ls (lZ (cC (.leaf 0 u1) x1 y1) (cC (.leaf 0 u2) x2 y2)) [] ss [[]] (aB r1 (au ts ls (af ts u1)) ++ aB r2 (au ts ls (af ts u2))) := by
 intro eb w cs VA c vr hD hE hP h17 hT;have h := CG db rd sb ma vt ts r ls (ra := [[]]) V1 V2 U h2 U.j hs1 hs2 (fun x hx => by rw [List.mem_singleton.1 hx]; exact ⟨rfl,fun n hn => by cases hn⟩) de eb w cs VA c vr hD hE hP h17 hT;rw [iD h2 (fun x hx => (List.mem_append.1 hx).elim (il db rd sb vt ts r ls hD r1 u1 x) (il db rd sb vt ts r ls hD r2 u2 x))] at h;exact h
theorem cX : (Tm.iri uP).short ∧ (Tm.iri uQ).short ∧ (Tm.iri uA).short := ⟨show uP.size ≤ 4096 by decide,show uQ.size ≤ 4096 by decide,show uA.size ≤ 4096 by decide⟩
theorem Eh (eb : Nat) (v : Value) (w : World) (hD : Dat w db rd sb vt ts r ls) (hE : Blk w eb 95 #[.pointer (some ⟨db,0,none⟩),.pointer (some ⟨sb,0,none⟩),.map ma,.int .i64 0]) (hG : aH gP0 w 0 v) :
    Calls prog 26 #[.pointer (some ⟨eb,0,none⟩),.agg #[v],fromV db sb ma] w (cS (fun R => R = cM vS vT vX vY 0 (au ts ls) (af ts uP) (af ts uQ) (af ts uA)) 3 [vT,vX,vY] w) := by
 have hb1 := il db rd sb vt ts r ls hD true uP;have hl1 := jS db rd sb vt ts r ls hD true (af ts uP);have ht2 := jS db rd sb vt ts r ls hD false (af ts uQ);have hb2 : ∀ x ∈ aN [vT,vX] (aB true (au ts ls (af ts uP))) [vT,vY] (aB false (au ts ls (af ts uQ))) [vT,vX,vY],x.length = 3 ∧ ∀ n ∈ x,-1 ≤ n := cB fun x hx => (hb1 x hx).2;have hl2 : (aN [vT,vX] (aB true (au ts ls (af ts uP))) [vT,vY] (aB false (au ts ls (af ts uQ))) [vT,vX,vY]).length ≤ 25 := Nat.le_trans cN (Nat.mul_le_mul hl1 ht2);refine (jh db rd sb ma vt ts r ls gP0 (fun i => match i with | 0 => [] | 1 => [vT,vX] | _ => [vT,vX,vY] : Nat → List ByteArray) (fun i => match i with | 0 => [[]] | 1 => aB true (au ts ls (af ts uP)) | _ => aN [vT,vX] (aB true (au ts ls (af ts uP))) [vT,vY] (aB false (au ts ls (af ts uQ))) [vT,vX,vY] : Nat → List (List Int)) ⟨rfl,rfl⟩ (show 2 ≤ 9 by decide) (show 0 < 3 ∧ 3 ≤ 9 by decide) ⟨Nat.le_trans hl2 de,fun x hx => (hb2 x hx).1⟩ sP (fun P hP => ?_) (fun i P hP => ?_) eb v w hD hE hG)
 · simp only [gP0,List.mem_cons,List.not_mem_nil,or_false] at hP;rcases hP with rfl | rfl
   · exact dZ _ _ _
   · exact dZ _ _ _
 · match i,hP with
   | 0,hP =>
    injection hP with hP;subst hP;exact mF db rd sb ma vt ts r ls uL jv1 ⟨vT,vX,rfl,by decide⟩ cX.1
   | 1,hP =>
    injection hP with hP;subst hP;exact oy db rd sb ma vt ts r ls yY jv4 cX.2.1 hb1 (Nat.le_trans hl1 de)
   | i + 2,hP => cases hP
theorem Ei (eb : Nat) (v : Value) (w : World) (hD : Dat w db rd sb vt ts r ls) (hE : Blk w eb 95 #[.pointer (some ⟨db,0,none⟩),.pointer (some ⟨sb,0,none⟩),.map ma,.int .i64 0]) (hG : aH gP1 w 0 v) :
    Calls prog 26 #[.pointer (some ⟨eb,0,none⟩),.agg #[v],fromV db sb ma] w (cS (fun R => R = cM vS vT vX vY 1 (au ts ls) (af ts uP) (af ts uQ) (af ts uA)) 3 [vT,vX,vY] w) := by
 have hb1 := il db rd sb vt ts r ls hD true uP;have hl1 := jS db rd sb vt ts r ls hD true (af ts uP);have ht2 := jS db rd sb vt ts r ls hD true (af ts uP);have hb2 : ∀ x ∈ aN [vT,vX] (aB true (au ts ls (af ts uP))) [vT,vY] (aB true (au ts ls (af ts uP))) [vT,vX,vY],x.length = 3 ∧ ∀ n ∈ x,-1 ≤ n := cB fun x hx => (hb1 x hx).2;have hl2 : (aN [vT,vX] (aB true (au ts ls (af ts uP))) [vT,vY] (aB true (au ts ls (af ts uP))) [vT,vX,vY]).length ≤ 25 := Nat.le_trans cN (Nat.mul_le_mul hl1 ht2);refine (jh db rd sb ma vt ts r ls gP1 (fun i => match i with | 0 => [] | 1 => [vT,vX] | _ => [vT,vX,vY] : Nat → List ByteArray) (fun i => match i with | 0 => [[]] | 1 => aB true (au ts ls (af ts uP)) | _ => aN [vT,vX] (aB true (au ts ls (af ts uP))) [vT,vY] (aB true (au ts ls (af ts uP))) [vT,vX,vY] : Nat → List (List Int)) ⟨rfl,rfl⟩ (show 2 ≤ 9 by decide) (show 0 < 3 ∧ 3 ≤ 9 by decide) ⟨Nat.le_trans hl2 de,fun x hx => (hb2 x hx).1⟩ sQ (fun P hP => ?_) (fun i P hP => ?_) eb v w hD hE hG)
 · simp only [gP1,List.mem_cons,List.not_mem_nil,or_false] at hP;rcases hP with rfl | rfl
   · exact dZ _ _ _
   · exact dZ _ _ _
 · match i,hP with
   | 0,hP =>
    injection hP with hP;subst hP;exact mF db rd sb ma vt ts r ls uL jv1 ⟨vT,vX,rfl,by decide⟩ cX.1
   | 1,hP =>
    injection hP with hP;subst hP;exact oy db rd sb ma vt ts r ls Ft jv4 cX.1 hb1 (Nat.le_trans hl1 de)
   | i + 2,hP => cases hP
theorem Ej (eb : Nat) (v : Value) (w : World) (hD : Dat w db rd sb vt ts r ls) (hE : Blk w eb 95 #[.pointer (some ⟨db,0,none⟩),.pointer (some ⟨sb,0,none⟩),.map ma,.int .i64 0]) (hG : aH gP2 w 0 v) :
    Calls prog 26 #[.pointer (some ⟨eb,0,none⟩),.agg #[v],fromV db sb ma] w (cS (fun R => R = cM vS vT vX vY 2 (au ts ls) (af ts uP) (af ts uQ) (af ts uA)) 2 [vX,vY] w) := by
 have hb1 : ∀ x ∈ aB false (au ts ls (af ts uP)) ++ aB false (au ts ls (af ts uQ)),x.length = 2 ∧ ∀ n ∈ x,-1 ≤ n := fun x hx => (List.mem_append.1 hx).elim (il db rd sb vt ts r ls hD false uP x) (il db rd sb vt ts r ls hD false uQ x);have hl1 : (aB false (au ts ls (af ts uP)) ++ aB false (au ts ls (af ts uQ))).length ≤ 10 := by rw [List.length_append]; have := jS db rd sb vt ts r ls hD false (af ts uP); have := jS db rd sb vt ts r ls hD false (af ts uQ); omega
 refine (jh db rd sb ma vt ts r ls gP2 (fun i => match i with | 0 => [] | _ => [vX,vY] : Nat → List ByteArray) (fun i => match i with | 0 => [[]] | _ => aB false (au ts ls (af ts uP)) ++ aB false (au ts ls (af ts uQ)) : Nat → List (List Int)) ⟨rfl,rfl⟩ (show 1 ≤ 9 by decide) (show 0 < 2 ∧ 2 ≤ 9 by decide) ⟨Nat.le_trans hl1 de,fun x hx => (hb1 x hx).1⟩ sR (fun P hP => ?_) (fun i P hP => ?_) eb v w hD hE hG)
 · simp only [gP2,List.mem_cons,List.not_mem_nil,or_false] at hP;subst hP;exact tD _ _
 · match i,hP with
   | 0,hP =>
    injection hP with hP;subst hP;exact Eg db rd sb ma vt ts r ls uM uM Fx ⟨vX,vY,rfl,by decide⟩ cX.1 cX.2.1
   | i + 1,hP => cases hP
theorem Ek (eb : Nat) (v : Value) (w : World) (hD : Dat w db rd sb vt ts r ls) (hE : Blk w eb 95 #[.pointer (some ⟨db,0,none⟩),.pointer (some ⟨sb,0,none⟩),.map ma,.int .i64 0]) (hG : aH gP3 w 0 v) :
    Calls prog 26 #[.pointer (some ⟨eb,0,none⟩),.agg #[v],fromV db sb ma] w (cS (fun R => R = cM vS vT vX vY 3 (au ts ls) (af ts uP) (af ts uQ) (af ts uA)) 2 [vX,vY] w) := by
 have hb1 := il db rd sb vt ts r ls hD true uA;have hl1 := jS db rd sb vt ts r ls hD true (af ts uA);refine (jh db rd sb ma vt ts r ls gP3 (fun i => match i with | 0 => [] | _ => [vX,vY] : Nat → List ByteArray) (fun i => match i with | 0 => [[]] | _ => aB true (au ts ls (af ts uA)) : Nat → List (List Int)) ⟨rfl,rfl⟩ (show 1 ≤ 9 by decide) (show 0 < 2 ∧ 2 ≤ 9 by decide) ⟨Nat.le_trans hl1 de,fun x hx => (hb1 x hx).1⟩ sS (fun P hP => ?_) (fun i P hP => ?_) eb v w hD hE hG)
 · simp only [gP3,List.mem_cons,List.not_mem_nil,or_false] at hP;subst hP;exact dZ _ _ _
 · match i,hP with
   | 0,hP =>
    injection hP with hP;subst hP;exact mF db rd sb ma vt ts r ls Fu jv2 ⟨vX,vY,rfl,by decide⟩ cX.2.2
   | i + 1,hP => cases hP
theorem El (eb : Nat) (v : Value) (w : World) (hD : Dat w db rd sb vt ts r ls) (hE : Blk w eb 95 #[.pointer (some ⟨db,0,none⟩),.pointer (some ⟨sb,0,none⟩),.map ma,.int .i64 0]) (hG : aH gP4 w 0 v) :
    Calls prog 26 #[.pointer (some ⟨eb,0,none⟩),.agg #[v],fromV db sb ma] w (cS (fun R => R = cM vS vT vX vY 4 (au ts ls) (af ts uP) (af ts uQ) (af ts uA)) 4 [vS,vT,vX,vY] w) := by
 have hb1 := il db rd sb vt ts r ls hD true uP;have hl1 := jS db rd sb vt ts r ls hD true (af ts uP);have ht2 := jS db rd sb vt ts r ls hD true (af ts uQ);have hb2 : ∀ x ∈ aN [vT,vX] (aB true (au ts ls (af ts uP))) [vS,vT] (aB true (au ts ls (af ts uQ))) [vS,vT,vX],x.length = 3 ∧ ∀ n ∈ x,-1 ≤ n := cB fun x hx => (hb1 x hx).2;have hl2 : (aN [vT,vX] (aB true (au ts ls (af ts uP))) [vS,vT] (aB true (au ts ls (af ts uQ))) [vS,vT,vX]).length ≤ 25 := Nat.le_trans cN (Nat.mul_le_mul hl1 ht2);have ht3 := jS db rd sb vt ts r ls hD false (af ts uA);have hb3 : ∀ x ∈ aN [vS,vT,vX] (aN [vT,vX] (aB true (au ts ls (af ts uP))) [vS,vT] (aB true (au ts ls (af ts uQ))) [vS,vT,vX]) [vS,vY] (aB false (au ts ls (af ts uA))) [vS,vT,vX,vY],x.length = 4 ∧ ∀ n ∈ x,-1 ≤ n := cB fun x hx => (hb2 x hx).2;have hl3 : (aN [vS,vT,vX] (aN [vT,vX] (aB true (au ts ls (af ts uP))) [vS,vT] (aB true (au ts ls (af ts uQ))) [vS,vT,vX]) [vS,vY] (aB false (au ts ls (af ts uA))) [vS,vT,vX,vY]).length ≤ 125 := Nat.le_trans cN (Nat.mul_le_mul hl2 ht3);refine (jh db rd sb ma vt ts r ls gP4 (fun i => match i with | 0 => [] | 1 => [vT,vX] | 2 => [vS,vT,vX] | _ => [vS,vT,vX,vY] : Nat → List ByteArray) (fun i => match i with | 0 => [[]] | 1 => aB true (au ts ls (af ts uP)) | 2 => aN [vT,vX] (aB true (au ts ls (af ts uP))) [vS,vT] (aB true (au ts ls (af ts uQ))) [vS,vT,vX] | _ => aN [vS,vT,vX] (aN [vT,vX] (aB true (au ts ls (af ts uP))) [vS,vT] (aB true (au ts ls (af ts uQ))) [vS,vT,vX]) [vS,vY] (aB false (au ts ls (af ts uA))) [vS,vT,vX,vY] : Nat → List (List Int)) ⟨rfl,rfl⟩ (show 3 ≤ 9 by decide) (show 0 < 4 ∧ 4 ≤ 9 by decide) ⟨Nat.le_trans hl3 de,fun x hx => (hb3 x hx).1⟩ sT (fun P hP => ?_) (fun i P hP => ?_) eb v w hD hE hG)
 · simp only [gP4,List.mem_cons,List.not_mem_nil,or_false] at hP;rcases hP with rfl | rfl | rfl
   · exact dZ _ _ _
   · exact dZ _ _ _
   · exact dZ _ _ _
 · match i,hP with
   | 0,hP =>
    injection hP with hP;subst hP;exact mF db rd sb ma vt ts r ls uL jv1 ⟨vT,vX,rfl,by decide⟩ cX.1
   | 1,hP =>
    injection hP with hP;subst hP;exact oy db rd sb ma vt ts r ls Fv jv5 cX.2.1 hb1 (Nat.le_trans hl1 de)
   | 2,hP =>
    injection hP with hP;subst hP;exact oy db rd sb ma vt ts r ls Fw jv6 cX.2.2 hb2 (Nat.le_trans hl2 de)
   | i + 3,hP => cases hP
theorem Em (eb : Nat) (v : Value) (w : World) (hD : Dat w db rd sb vt ts r ls) (hE : Blk w eb 95 #[.pointer (some ⟨db,0,none⟩),.pointer (some ⟨sb,0,none⟩),.map ma,.int .i64 0]) (hG : aH gP5 w 0 v) :
    Calls prog 26 #[.pointer (some ⟨eb,0,none⟩),.agg #[v],fromV db sb ma] w (cS (fun R => R = cM vS vT vX vY 5 (au ts ls) (af ts uP) (af ts uQ) (af ts uA)) 3 [vT,vX,vY] w) := by
 have hb1 := il db rd sb vt ts r ls hD true uP;have hl1 := jS db rd sb vt ts r ls hD true (af ts uP);have ht2 : (aB false (au ts ls (af ts uQ)) ++ aB false (au ts ls (af ts uP))).length ≤ 10 := by rw [List.length_append]; have := jS db rd sb vt ts r ls hD false (af ts uQ); have := jS db rd sb vt ts r ls hD false (af ts uP); omega
 have hb2 : ∀ x ∈ aN [vT,vX] (aB true (au ts ls (af ts uP))) [vT,vY] (aB false (au ts ls (af ts uQ)) ++ aB false (au ts ls (af ts uP))) [vT,vX,vY],x.length = 3 ∧ ∀ n ∈ x,-1 ≤ n := cB fun x hx => (hb1 x hx).2;have hl2 : (aN [vT,vX] (aB true (au ts ls (af ts uP))) [vT,vY] (aB false (au ts ls (af ts uQ)) ++ aB false (au ts ls (af ts uP))) [vT,vX,vY]).length ≤ 50 := Nat.le_trans cN (Nat.mul_le_mul hl1 ht2);refine (jh db rd sb ma vt ts r ls gP5 (fun i => match i with | 0 => [] | 1 => [vT,vX] | _ => [vT,vX,vY] : Nat → List ByteArray) (fun i => match i with | 0 => [[]] | 1 => aB true (au ts ls (af ts uP)) | _ => aN [vT,vX] (aB true (au ts ls (af ts uP))) [vT,vY] (aB false (au ts ls (af ts uQ)) ++ aB false (au ts ls (af ts uP))) [vT,vX,vY] : Nat → List (List Int)) ⟨rfl,rfl⟩ (show 2 ≤ 9 by decide) (show 0 < 3 ∧ 3 ≤ 9 by decide) ⟨Nat.le_trans hl2 de,fun x hx => (hb2 x hx).1⟩ sV (fun P hP => ?_) (fun i P hP => ?_) eb v w hD hE hG)
 · simp only [gP5,List.mem_cons,List.not_mem_nil,or_false] at hP;rcases hP with rfl | rfl
   · exact dZ _ _ _
   · exact tD _ _
 · match i,hP with
   | 0,hP =>
    injection hP with hP;subst hP;exact mF db rd sb ma vt ts r ls uL jv1 ⟨vT,vX,rfl,by decide⟩ cX.1
   | 1,hP =>
    injection hP with hP;subst hP;exact CG db rd sb ma vt ts r ls yY yY Fy ⟨vT,vY,rfl,by decide⟩ jv4 cX.2.1 cX.1 hb1 (Nat.le_trans hl1 de)
   | i + 2,hP => cases hP
end
end
end Go.Proofs.YtfaapkpebnagmaaGreatDoor
