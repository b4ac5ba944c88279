/- Texts of the proof, one behind the other: Oj, Ok, Ol, Na, Nb, Nc, Pa, Ne, Pb, Pc, Nd. -/
import Derived.Test.YtfaapkpebnagmaaGreatDoorXs
import Derived.Test.YtfaapkpebnagmaaGreatDoorXr
import Derived.Sort.OwnSortedInts
namespace Go.Proofs.YtfaapkpebnagmaaGreatDoor
open _root_.Go.Proofs.Tryz
open Go.RowKit Go
set_option linter.unusedVariables false
set_option maxRecDepth 100000
set_option maxHeartbeats 400000000
variable {lo : List (Ent Int)} {rb mb fb re ro ce co c kind B m rn : Nat} {om : Nat → List (Ent Edge) × Nat} {le : List (Ent Edge)} {w w0 w' : World} {p q a n e0 : Int} {E : List Edge} {R : List Nat} {l : List (Ent Place)} {mv : MS} {U : List Place} {Q : Place → Prop} {M : World → Prop} {P : Program} {K : Nat → Prop} {e : TypeId} {x : Place} {k : Edge}
theorem sY (w : World) : Calls prog 378 #[.slice none 0 0,.int .i64 0,.int .i64 0] w fun e w' => e = .returned (.tuple #[]) ∧ w = w' := by
 go_enter func378,ntmps378;go_wp2_with fail
 go_loopw [6] (fun iv wr => iv = .int .i64 1 ∧ w = wr) (fun _ _ => 0)
 case atStart => exact ⟨rfl,rfl⟩
 case round =>
  obtain ⟨rfl,rfl⟩ := hrel;go_wp2_with fail
  go_end0;exact ⟨rfl,rfl⟩
theorem yw (lim : Int) (w : World) : Calls prog 377 #[.slice none 0 0,.int .i64 0,.int .i64 0,.int .i64 lim] w fun e w' => e = .returned (.tuple #[]) ∧ w = w' := by
 have HI := Hd (fun w => sY w);go_enter func377,ntmps377;go_wp2_with fail
 go_loopw [1,2,3] (fun av bv lv wr => av = .int .i64 0 ∧ bv = .int .i64 0 ∧ lv = .int .i64 lim ∧ w = wr) (fun _ _ _ _ => 0)
 case atStart => exact ⟨rfl,rfl,rfl,rfl⟩
 case round =>
  obtain ⟨rfl,rfl,rfl,rfl⟩ := hrel;go_wp2_with fail;refine (HI _).mono ?_;rintro e w1 ⟨rfl,rfl⟩;go_wp2_with fail
  first | go_end0 | refine bodyPost_ret (results_none rfl _ _ _) rfl ?_
  exact ⟨rfl,rfl⟩
theorem vR (w : World) : Calls prog 375 #[.slice none 0 0] w fun e w' => e = .returned (.tuple #[]) ∧ w = w' := by
 have HP := Hd (fun lim w => yw lim w);have HL := Hd (fun w => wO 0 jj w);go_enter func375,ntmps375;go_wp2_with fail;refine (HL _).mono ?_;rintro e w1 ⟨⟨x,rfl⟩,rfl⟩;go_wp2_with fail;refine (HP _ _).mono ?_;rintro e w1 ⟨rfl,rfl⟩;go_wp2_with fail
 go_end0;exact ⟨rfl,rfl⟩
theorem vU (B : Nat) (v : Value) (xs : List Int) (w : World) (hn : xs.length ≤ 4096) (hr : ap w B v xs) :
    Calls prog 375 #[v] w fun e w' => ∃ ys,e = .returned (.tuple #[]) ∧ ap w' B v ys ∧ ys.Perm xs ∧ Fr (fun j => v.ownBlock = some j) w w' := by
 have hr0 := hr;rcases hr0.2 with ⟨h1,h2⟩ | ⟨g,cap,cur,h1,hbase,hb,h2,h3,h4,h5⟩
 · have hx : xs = [] := List.eq_nil_of_length_eq_zero h2;subst hx;subst h1;exact (vR w).mono (by rintro e w1 ⟨rfl,rfl⟩; exact ⟨[],rfl,World.ownsRow_nil _ _ _ _,List.Perm.refl _,Fr.refl _ _⟩)
 · subst h1;refine (Tryz.slices_Sort_int g 0 cap xs w (holds_of_blockI hb (by simpa using h5)) (Array.getElem?_eq_some_iff.1 hb).1 jj).mono ?_;rintro e w' ⟨rfl,nn,os,rfl⟩;have hp : (xs.mergeSort fun x y => decide (x ≤ y)).Perm xs := List.mergeSort_perm _ _;refine ⟨_,rfl,?_,hp,(Fr.of_grown (grownBy_sortedI _)).mono (fun k _ h => by injection h with h; exact congrArg some h)⟩;have := ownsRow_sortedI (w := w) (n := nn) (os := os) (ts := xs.mergeSort fun x y => decide (x ≤ y)) hp.length_eq hbase hb h2 h3 h4;unfold ap;rw [hp.length_eq];exact this
def nI (l : List Nat) : List Int := l.map fun (n : Nat) => (n : Int)
theorem cq (l : List Nat) : (nI l).length = l.length := by simp [nI]
theorem pK (l m : List Nat) : nI (l ++ m) = nI l ++ nI m := by simp [nI]
theorem ic : ∀ (f : Nat) (wait : List Nat) (seen : List Bool) (out : List Nat),dfs mv f wait seen out = some R → wait.length ≤ f
 | 0,wait,seen,out,h => by
  unfold dfs at h;split at h
  · rename_i h0; rw [h0]; simp
  · cases h
 | f + 1,wait,seen,out,h => by
  rcases List.eq_nil_or_concat wait with rfl | ⟨l,s,rfl⟩
  · simp
  · unfold dfs at h;simp only [List.concat_eq_append,List.getLast?_append,List.getLast?_singleton,Option.some_or,List.dropLast_concat] at h;simp only [List.concat_eq_append,List.length_append,List.length_singleton];split at h
    · have := ic f _ _ _ h;omega
    · have := ic f _ _ _ h;rw [List.length_append] at this;omega
theorem uC : ∀ (f : Nat) (seen : List Bool) (out : List Nat),dfs mv f [] seen out = some R → out = R
 | 0,seen,out,h => by
  unfold dfs at h;simpa using h
 | f + 1,seen,out,h => by
  unfold dfs at h;simpa using h
theorem rq {f : Nat} {l : List Nat} {s : Nat} {seen : List Bool} {out : List Nat} (h : dfs mv f (l ++ [s]) seen out = some R) :
    ∃ f',f = f' + 1 ∧ ((seen.getD s false = true ∧ dfs mv f' l seen out = some R) ∨ (seen.getD s false = false ∧ dfs mv f' (l ++ dJ (mv.getD s [])) (seen.set s true) (out ++ [s]) = some R)) := by
 cases f with
 | zero =>
  have := ic _ _ _ _ h;simp at this
 | succ f =>
  refine ⟨f,rfl,?_⟩;unfold dfs at h;simp only [List.getLast?_append,List.getLast?_singleton,Option.some_or,List.dropLast_concat] at h;by_cases hs : seen.getD s false = true
  · rw [if_pos hs] at h;exact .inl ⟨hs,h⟩
  · rw [if_neg hs] at h;exact .inr ⟨by simpa using hs,h⟩
theorem sZ (row : List Mv) : (dJ row).length ≤ row.length := by
 unfold dJ;rw [List.length_map];exact List.length_filter_le _ _
theorem rt (row : List Mv) (k : Nat) (m : Mv) (h : row[k]? = some m) : dJ (row.take (k + 1)) = if m.2.2.1 = true then dJ (row.take k) ++ [m.2.2.2] else dJ (row.take k) := by
 have : row.take (k + 1) = row.take k ++ [m] := by rw [List.take_add_one,h]; rfl
 rw [this];unfold dJ;rw [List.filter_append,List.map_append];by_cases hm : m.2.2.1 = true
 · rw [if_pos hm];simp [hm]
 · rw [if_neg hm];simp [hm]
theorem s8 (row : List Mv) (k : Nat) (m : Mv) (n : Int) (b : Bool) (h : row[k]? = some m) : cK (row.take (k + 1)) n b = if l5 n b m = true then cK (row.take k) n b ++ [m.2.2.2] else cK (row.take k) n b := by
 have : row.take (k + 1) = row.take k ++ [m] := by rw [List.take_add_one,h]; rfl
 rw [this];unfold cK;rw [List.filter_append,List.map_append];by_cases hm : l5 n b m = true
 · rw [if_pos hm];simp [hm]
 · rw [if_neg hm];simp [hm]
theorem BI {n : Nat} {A : Option Addr} {xs : List Int} {x : Int} (h : w.ownsRow B 3 1 (.slice A (n + 1) c) (n + 1) ((xs ++ [x]).map (.int .i64))) : w.ownsRow B 3 1 (.slice A n c) n (xs.map (.int .i64)) := by
 have hl : xs.length = n := by have := h.1; simp at this; omega
 refine ⟨by simp [hl],?_⟩;rcases h.2 with ⟨_,h2⟩ | ⟨g',cap,cur,h1,h2,h3,h4,h5,h6,h7⟩
 · omega
 · injection h1 with h1 _ h1c;subst h1 h1c;refine .inr ⟨g',_,cur,rfl,h2,h3,by omega,h5,h6,?_⟩;have h8 : (cur.toList.take ((n + 1) * 1)).take n = ((xs ++ [x]).map (Value.int .i64)).take n := by rw [h7]
   rw [List.take_take] at h8;rw [Nat.mul_one,show n = min n ((n + 1) * 1) by omega,h8,List.map_append,List.take_append_of_le_length (by simp; omega),List.take_of_length_le (by simp; omega)]
theorem Fg : (prog.info? 4).map (fun i => (i.zero,i.size,i.bytes)) = some (some (.bool false),1,1) := kr
def ft (R : List Nat) (w : World) (e' : Ending) (w' : World) : Prop := ∃ v' ys,e' = .returned v' ∧ ap w' w.heap.size v' (nI ys) ∧ ys.Perm R ∧ Fr (fun _ => False) w w'
theorem BJ {l : List Int} {m : List Nat} (h : l.Perm (nI m)) : ∃ k : List Nat,l = nI k ∧ k.Perm m := by
 refine ⟨l.map Int.toNat,?_,?_⟩
 · unfold nI;rw [List.map_map]
   conv => lhs; rw [← List.map_id l]
   apply List.map_congr_left;intro a ha;have := h.mem_iff.1 ha;unfold nI at this;obtain ⟨n,_,rfl⟩ := List.mem_map.1 this;simp
 · have h2 := h.map Int.toNat;have e : (nI m).map Int.toNat = m := by
    unfold nI;rw [List.map_map]
    conv => rhs; rw [← List.map_id m]
    apply List.map_congr_left;intro a _;simp
   rwa [e] at h2
theorem od (B : Nat) (K : Nat → Prop) (mb : Nat) (mv : MS) (b0 e0 : Int) (w : World) (h : b6 w B K mb mv b0 e0) (hok : MOk mv) (hmz : msz mv ≤ 200) (ss : List Nat) (hss : ∀ x ∈ ss,x < mv.length) (B' : Nat) (v : Value) (hr : ap w B' v (nI ss)) (R : List Nat) (hclo : clo mv ss = some R) :
    Calls prog 368 #[.pointer (some ⟨mb,0,none⟩),v] w (ft R w) := by
 obtain ⟨mvv,vals,hma⟩ := h;have hb := hma.blk;have hm := hma.mvs;obtain ⟨i3,hi3,hz30,hz31,hz32⟩ := info_parts info3;obtain ⟨i4,hi4,hz40,hz41,hz42⟩ := info_parts Fg;obtain ⟨A0,c0,hvt⟩ := ad hm.own;subst hvt;have hml := jK mv;have hssl : ss.length ≤ 100 := ic _ _ _ _ hclo;have m0 := hb.c0;have HB := Hd hb;have HM := Hd hm;have HOK := Hd hok;have HSS := Hd hss;have HR := Hd hr;have HCLO := Hd hclo;obtain ⟨n,hn⟩ : ∃ n,n = mv.length := ⟨_,rfl⟩;rw [← hn] at m0 hml;have HN := Hd hn;clear hma hb hm hok hss hr hclo hn;go_enter func368,ntmps368;go_wp2_with (refine wpList_make_full _ rfl _ _ 480 rfl w.heap.size 4 i4 _ 1 underlying480 hi4 hz40 hz41 _ _ _ _ n (by rfl) (by rfl) rfl rfl (by rw [hz42]; omega) (by unfold maxLen; omega) (Nat.le_refl _) ?_; intro w1 hrow1 hgr1);have hf1 : Fr (fun j => w.heap.size ≤ j) w w1 := (Fr.of_grown hgr1).mono (fun _ _ e => by cases e);rw [show (madeCells (Value.bool false).cells (n * 1)).toList = (List.replicate n false).map Value.bool by rw [show (Value.bool false).cells = #[Value.bool false] from rfl,toList_madeCells_one,Nat.mul_one,List.map_replicate]] at hrow1;have HF1 := Hd hf1;have HR1 := Hd hrow1;have hsg := hrow1.lt w.heap.size rfl;have HCL := Hd (iU B' v (nI ss) w1 (by rw [cq]; omega) (HR.fr hf1 (fun k hk h => by have := (HR.lt k hk).2; omega)));clear hrow1 hgr1 hf1;go_wp2_with (go_at_call 88; refine HCL.mono ?_; rintro e2 w2 ⟨v2,rfl,hr2,hf2⟩);have HF2 := Hd (HF1.andF hf2);have HR2 := Hd hr2;have HSN := Hd (aa HR1.out hf2 ii);clear hr2 hf2 HCL HR1 HF1;go_wp2_with fail;obtain ⟨Aw0,cw0,hv2⟩ := ad HR2.out;subst hv2;rw [cq] at *
 go_loopg [6,7] (100) (fun gk wv ov wr => ∃ (wait out : List Nat) (seen : List Bool) (Aw Ao : Option Addr) (cw co : Nat),wv = .slice Aw wait.length cw ∧ ov = .slice Ao out.length co ∧ ap wr w.heap.size (.slice Aw wait.length cw) (nI wait) ∧ ap wr w.heap.size (.slice Ao out.length co) (nI out) ∧ (∀ k,(Value.slice Aw wait.length cw).ownBlock = some k → (Value.slice Ao out.length co).ownBlock ≠ some k) ∧ wr.ownsRow w.heap.size 4 1 (.slice (some ⟨w.heap.size,0,none⟩) n n) n (seen.map .bool) ∧ dfs mv gk wait seen out = some R ∧ gk + out.length ≤ 100 ∧ (∀ x ∈ wait,x < n) ∧ Fr (fun j => w.heap.size ≤ j) w wr)
 case atStart =>
  refine ⟨ss,[],List.replicate n false,Aw0,none,cw0,0,rfl,rfl,ai HR2.out jj,World.ownsRow_nil _ _ _ _,fun k _ h => (by cases h),HSN,?_,Nat.le_refl _,?_,HF2⟩
  · rw [HN.out]; exact HCLO.out
  · rw [HN.out]; exact HSS.out
 case round =>
  obtain ⟨wait,out,seen,Aw,Ao,cw,co,rfl,rfl,hw,ho,hd,hsn,hdf,hgk,hwn,hf⟩ := hrel;clear HR2 HSN HF2 HCLO HSS;rcases List.eq_nil_or_concat wait with rfl | ⟨l,s,rfl⟩
  · obtain rfl := uC _ _ _ hdf;have HO := Hd ho;have HF := Hd hf;have HSO := Hd (vU w.heap.size (.slice Ao out.length co) (nI out) wr (by rw [cq]; omega) ho);clear hw ho hd hsn hdf hwn hf;go_wp2_with (go_at_call 375; refine HSO.mono ?_; rintro e3 w3 ⟨ys,rfl,hr3,hp3,hf3⟩);obtain ⟨ks,rfl,hk⟩ := BJ hp3;have HR3 := Hd hr3;have HK := Hd hk;have HF3 := Hd ((HF.trans hf3 (fun j hj h => by have := (HO.lt j h).1; omega)).shut (Nat.le_refl _));go_ret;exact ⟨_,ks,rfl,HR3,HK,HF3⟩
  · simp only [List.concat_eq_append,List.length_append,List.length_singleton] at hw hd hdf hwn ⊢;obtain ⟨gk',rfl,hcase⟩ := rq hdf;have hwl := ic _ _ _ _ hdf;rw [List.length_append,List.length_singleton] at hwl;have hsn' : s < n := hwn s (by simp);have hwn2 : ∀ x ∈ l,x < n := fun x hx => hwn x (by simp [hx]);rw [pK] at hw;have hw1 : wr.ownsRow w.heap.size 3 1 (.slice Aw (l.length + 1) cw) (l.length + 1) ((nI l ++ [(s : Int)]).map (.int .i64)) := by
     have h := hw;unfold ap at h;rw [List.length_append,cq] at h;exact h
    obtain ⟨gw,hAw,hgw,hgwl,hcw⟩ := ar hw1 jj;subst hAw;have hcs : wr.cell? ⟨gw,l.length,none⟩ = some (.int .i64 (s : Int)) := by
     rw [World.ownsRow.cellAt hw1 l.length jj,List.map_append,List.getElem?_append_right (by rw [List.length_map,cq]; omega),List.length_map,cq];simp
    have hcut := BI hw1;have hsl : seen.length = n := by have := hsn.1; simp at this; omega
    have hse : wr.cell? ⟨w.heap.size,s,none⟩ = some (.bool (seen.getD s false)) := by
     rw [World.ownsRow.cellAt hsn s jj,List.getElem?_map,List.getD_eq_getElem?_getD,List.getElem?_eq_getElem jj];rfl
    have hsf : wr.frozen? ⟨w.heap.size,s,none⟩ = false := World.ownsRow.frozenAt hsn s;have hsz1 := (hsn.lt w.heap.size rfl).2;have hlt : (s : Int) < (n : Int) := jj;have hwpos : (0 : Int) < (l.length : Int) + 1 := jj;have hCUT := Hd (show ap wr w.heap.size (.slice (some ⟨gw,0,none⟩) l.length cw) (nI l) by
     unfold ap;rw [cq];exact hcut)
    have HO := Hd ho;have HD := Hd hd;have HSNR := Hd hsn;have HF := Hd hf;have HWN2 := Hd hwn2;clear hw hw1 hcut ho hd hsn hf hwn2 hwn hdf;rcases hcase with ⟨hs1,hdf⟩ | ⟨hs1,hdf⟩
    · rw [hs1] at hse;have HDF := Hd hdf;clear hdf hs1;go_wp2_with fail
      go_roundg (gk')
      case measure => omega
      case rel => exact ⟨l,out,seen,_,Ao,cw,co,rfl,rfl,hCUT.out,HO,HD,HSNR,HDF,by omega,HWN2,HF⟩
    · rw [hs1] at hse;have HDF := Hd hdf;have hnm : n = mv.length := HN.out;obtain ⟨og,hA0,hog,hogl,_⟩ := ar HM.own jj;subst hA0;have hsm : s < mv.length := jj;clear hnm;obtain ⟨rowm,hrowm⟩ : ∃ rowm,rowm = mv.getD s [] := ⟨_,rfl⟩;have hrz : rowm.length ≤ msz mv := by rw [hrowm]; exact jL mv s
      have hrm := HM.each s hsm;rw [← hrowm] at hrm;obtain ⟨Am,cm,hvm⟩ := ad hrm;have HVM := Hd hvm;have HRM := Hd hrm;have HROWM := Hd hrowm;have hmc : ∀ wq,Fr (fun j => w.heap.size ≤ j) w wq → wq.cell? ⟨mb,0,none⟩ = some (.slice (some ⟨og,0,none⟩) n c0) ∧ wq.cell? ⟨og,s,none⟩ = some (.slice Am rowm.length cm) := fun wq hq => by
       have h1 := (HB.fr hq (fun h => by have := HB.lt; omega)).cell 0;rw [← HN.out] at h1;refine ⟨h1,?_⟩;have h2 := aa HM.own hq (fun k hk h => by have := (HM.own.lt k hk).2; omega);have hln := HM.len;rw [World.ownsRow.cellAt h2 s jj,← HVM.out,List.getD_eq_getElem?_getD,List.getElem?_eq_getElem jj];rfl
      have HMC := Hd hmc;have FS : Fr (fun j => j = w.heap.size) wr (wr.setCell ⟨w.heap.size,s,none⟩ (.bool true)) := (Fr.refl (fun j => j = w.heap.size) wr).setCell ⟨w.heap.size,s,none⟩ (fun _ => rfl) _;have hO2 := aa HO.out FS (fun k hk e => aw HO.out HSNR.out de hk (by rw [e]; rfl));rw [cq] at hO2;have HO2 := Hd hO2;have HS2 := Hd (show (wr.setCell ⟨w.heap.size,s,none⟩ (.bool true)).ownsRow w.heap.size 4 1 (.slice (some ⟨w.heap.size,0,none⟩) n n) n ((seen.set s true).map .bool) by
       have h := (HSNR.stored s (.bool true)).1;rw [List.map_set];exact h)
      have hCUT2 := Hd (ap.fr hCUT.out FS (fun k hk e => aw hCUT.out HSNR.out de hk (by rw [e]; rfl)));have hF2 := Hd (HF.setCell ⟨w.heap.size,s,none⟩ (fun _ => Nat.le_refl _) (.bool true));have hol : out.length ≤ 100 := jj;clear hdf hs1 hmc hrm hvm hrowm FS hO2 hCUT;go_wp2_with (at_builtin; refine wpList_append_own_at _ rfl _ _ 99 rfl w.heap.size 3 i3 _ 1 8 underlying99 hi3 hz30 hz31 hz32 rfl de _ out.length ((nI out).map (.int .i64)) (by rfl) (HO2.out.alloc _) ⟨wr.heap.size,0,none⟩ 1 1 [.int .i64 (s : Int)] (by rfl) rfl (by have h := World.news_of_block (heap_alloc_new (wr.setCell ⟨w.heap.size,s,none⟩ (.bool true)) (.cells #[.int .i64 (s : Int)] 3)); simpa using h) (by intro u hu; rw [List.mem_singleton] at hu; rw [hu]; rfl) (by unfold maxLen; omega) jj (by simp; omega) ?_; intro v6 w6 hown6 hgr6 _ hat6; obtain ⟨A6,c6,hv6⟩ := ad hown6; subst hv6; have hf6 : Fr (fun j => w.heap.size ≤ j) w w6 := ((hF2.out.alloc _).grown hgr6 (fun k _ hk => (HO.out.lt k hk).1)); have m6 := (HMC.out w6 hf6).1; have o6 := (HMC.out w6 hf6).2; have hs6 := hf6.size);have F26 : Fr (fun k => (Value.slice Ao out.length co).ownBlock = some k) (wr.setCell ⟨w.heap.size,s,none⟩ (.bool true)) w6 := ((Fr.refl _ _).alloc _).trans (Fr.of_grown hgr6) ii;have HR6 := Hd (show ap w6 w.heap.size (.slice A6 (out.length + 1) c6) (nI (out ++ [s])) by
       unfold ap;rw [pK,List.length_append,cq,List.map_append];exact hown6)
      have HS6 := Hd (aa HS2.out F26 (fun k hk e => aw HS2.out HO2.out de hk e));have HW6 := Hd (hCUT2.out.fr F26 (fun k hk e => HD.out k hk e));have HD6 := Hd (show ∀ k,(Value.slice (some ⟨gw,0,none⟩) l.length cw).ownBlock = some k → (Value.slice A6 (out.length + 1) c6).ownBlock ≠ some k from fun k hk e => by
       rcases hat6 with h2 | h2
       · exact HD.out k hk (h2.symm.trans e)
       · rw [h2] at e;injection e with e;injection hk with hk;simp at e;have hk : gw = k := hk;omega)
      have HF6 := Hd hf6;clear hown6 hgr6 hat6 hf6 m6 o6 F26 HS2 hCUT2 HD HO2 hF2 HO HSNR HF HR hcs hse hsf
      go_loopw [6,52] (fun wv iv wq => ∃ (k : Nat) (Aw2 : Option Addr) (cw2 : Nat) (wl : List Nat),wv = .slice Aw2 wl.length cw2 ∧ iv = .int .i64 (k : Int) ∧ k ≤ rowm.length ∧ wl = l ++ dJ (rowm.take k) ∧ ap wq w.heap.size (.slice Aw2 wl.length cw2) (nI wl) ∧ (∀ j,(Value.slice Aw2 wl.length cw2).ownBlock = some j → (Value.slice A6 (out.length + 1) c6).ownBlock ≠ some j) ∧ ap wq w.heap.size (.slice A6 (out.length + 1) c6) (nI (out ++ [s])) ∧ wq.ownsRow w.heap.size 4 1 (.slice (some ⟨w.heap.size,0,none⟩) n n) n ((seen.set s true).map .bool) ∧ Fr (fun j => w.heap.size ≤ j) w wq) (fun _ iv _ => rowm.length - (intOf iv).toNat)
      case atStart => exact ⟨0,some ⟨gw,0,none⟩,cw,l,rfl,rfl,Nat.zero_le _,by simp [dJ],HW6,HD6,HR6,HS6,HF6⟩
      case round =>
       clear HW6 HD6 HR6 HS6 HF6;obtain ⟨k,Aw2,cw2,wl,rfl,rfl,hk,hwl2,hw,hd,ho,hsn,hf⟩ := hrel;have HO := Hd ho;have HD := Hd hd;have HSNR := Hd hsn;have HF := Hd hf;have HWL := Hd hwl2;have hszq := hf.size;have hwll : wl.length ≤ 300 := by
        rw [hwl2,List.length_append];have := sZ (rowm.take k);rw [List.length_take] at this;omega
       clear ho hd hsn hwl2;by_cases hkl : k < rowm.length
       · have hlt2 : (k : Int) < (rowm.length : Int) := jj;obtain ⟨m,hm⟩ : ∃ m,rowm[k]? = some m := ⟨_,List.getElem?_eq_getElem hkl⟩;have hrm := HRM.out;rw [HVM.out] at hrm;have hrq := aa hrm hf (fun j hj h => by have := (hrm.lt j hj).2; omega);obtain ⟨gm,hAm,_,hgml,_⟩ := ar hrq jj;subst hAm;have hmcell : ∀ j,j < 4 → wr.cell? ⟨gm,k * 4 + j,none⟩ = (mvC m)[j]? := fun j hj => by
          rw [World.ownsRow.cellAt hrq (k * 4 + j) jj];exact g9 rowm k m j hm hj
         have q0 : wr.cell? ⟨gm,k * 4,none⟩ = some (.int .i64 m.1) := hmcell 0 jj;have q1 : wr.cell? ⟨gm,k * 4 + 1,none⟩ = some (.bool m.2.1) := hmcell 1 jj;have q2 : wr.cell? ⟨gm,k * 4 + 2,none⟩ = some (.bool m.2.2.1) := hmcell 2 jj;have q3 : wr.cell? ⟨gm,k * 4 + 3,none⟩ = some (.int .i64 (m.2.2.2 : Int)) := hmcell 3 jj;have HPU := Hd (rt rowm k m hm);obtain ⟨m1,m2,m3,m4⟩ := m;simp only at q0 q1 q2 q3 HPU;have hfa := Fr.a1 wr (.cells #[.int .i64 m1,.bool m2,.bool m3,.int .i64 (m4 : Int)] 474);have HFA := Hd hfa;have hza := al1 wr (.cells #[.int .i64 m1,.bool m2,.bool m3,.int .i64 (m4 : Int)] 474);have hbx := Blk.new wr 474 #[.int .i64 m1,.bool m2,.bool m3,.int .i64 (m4 : Int)];have HBX := Hd hbx;have y2 := hbx.c2;have y3 := hbx.c3;have hwa := aa hw hfa ii;rw [cq] at hwa;have HWA := Hd hwa;have HW := Hd hw;clear hrm hrq hmcell hm hfa hbx hw hf hwa;cases m3 with
         | false =>
          go_wp2_with fail;have HW2 := Hd (ap.fr HW.out HFA.out ii);have HO2 := Hd (ap.fr HO.out HFA.out ii);have HS2 := Hd (aa HSNR.out HFA.out ii);have HF2 := Hd (HF.andF HFA);have HWL2 := Hd (show wl = l ++ dJ (rowm.take (k + 1)) by rw [HPU.out,if_neg Bool.false_ne_true]; exact HWL);clear HW HO HSNR HF HWA HFA HBX HPU HWL q0 q1 q2 q3 y2 y3;go_roundw
          case rel => exact ⟨k + 1,Aw2,cw2,wl,rfl,by go_num,hkl,HWL2,HW2,HD,HO2,HS2,HF2⟩
          case measure => simp only [intOf]; omega
         | true =>
          go_wp2_with (at_builtin; refine wpList_append_own_at _ rfl _ _ 99 rfl w.heap.size 3 i3 _ 1 8 underlying99 hi3 hz30 hz31 hz32 rfl de _ wl.length ((nI wl).map (.int .i64)) (by rfl) (HWA.alloc _) ⟨wr.heap.size + 1,0,none⟩ 1 1 [.int .i64 (m4 : Int)] (by rfl) rfl (by have h := World.news_of_block (heap_alloc_new (wr.alloc (.cells #[.int .i64 m1,.bool m2,.bool true,.int .i64 (m4 : Int)] 474)) (.cells #[.int .i64 (m4 : Int)] 3)); rw [hza] at h; exact h) (by intro u hu; rw [List.mem_singleton] at hu; rw [hu]; rfl) (by unfold maxLen; omega) jj (by simp; omega) ?_; intro v8 w8 hown8 hgr8 _ hat8; obtain ⟨A8,c8,hv8⟩ := ad hown8; subst hv8);have F8 : Fr (fun j => (Value.slice Aw2 wl.length cw2).ownBlock = some j) wr w8 := ((HFA.mono uu).alloc _).trans (Fr.of_grown hgr8) ii;have HW2 := Hd (show ap w8 w.heap.size (.slice A8 (wl ++ [m4]).length c8) (nI (wl ++ [m4])) by
           unfold ap;rw [cq,pK,List.length_append,List.map_append];exact hown8)
          have HO2 := Hd (ap.fr HO.out F8 (fun j hj e => HD.out j e hj));have HS2 := Hd (aa HSNR.out F8 (fun j hj e => aw HSNR.out HW.out de hj e));have HF2 := Hd (HF.trans F8 (fun j hj e => (HW.lt j e).1));have HWL2 := Hd (show wl ++ [m4] = l ++ dJ (rowm.take (k + 1)) by rw [HPU.out,if_pos rfl,HWL.out,List.append_assoc]);have HD2 := Hd (show ∀ j,(Value.slice A8 (wl ++ [m4]).length c8).ownBlock = some j → (Value.slice A6 (out.length + 1) c6).ownBlock ≠ some j from fun j hj e => by
           rw [show (wl ++ [m4]).length = wl.length + 1 by simp] at hj;rcases hat8 with h2 | h2
           · exact HD.out j (h2.symm.trans hj) e
           · have h3 := (HO.lt j e).2;have h4 : (Value.slice A8 (wl.length + 1) c8).ownBlock = some j := hj;rw [h2] at h4;injection h4 with h4;simp at h4;omega)
          have hlen : (wl ++ [m4]).length = wl.length + 1 := by simp
          have HLEN := Hd hlen;clear HW HO HSNR HF HWA HFA HBX HPU HWL q0 q1 q2 q3 y2 y3 HD hown8 hgr8 hat8 F8 hlen;go_wp2_with fail;go_roundw
          case rel => exact ⟨k + 1,A8,c8,wl ++ [m4],by rw [HLEN.out],by go_num,hkl,HWL2,HW2,HD2,HO2,HS2,HF2⟩
          case measure => simp only [intOf]; omega
       · obtain rfl : k = rowm.length := jj;have HW := Hd hw;have HWL2 := Hd (show wl = l ++ dJ (mv.getD s []) by have h := HWL.out; rw [List.take_length,HROWM.out] at h; exact h);have HXN := Hd (show ∀ x ∈ wl,x < n from fun x hx => by
          rw [HWL2.out] at hx;rcases List.mem_append.1 hx with h | h
          · exact HWN2.out x h
          · unfold dJ at h;obtain ⟨m,hm,rfl⟩ := List.mem_map.1 h;have hm2 := (List.mem_filter.1 hm).1;rw [HN.out];refine HOK (mv.getD s []) ?_ m hm2;rw [List.getD_eq_getElem?_getD,List.getElem?_eq_getElem hsm];exact List.getElem_mem hsm)
         have HDF2 := Hd (show dfs mv gk' wl (seen.set s true) (out ++ [s]) = some R by rw [HWL2.out]; exact HDF);have HLEN := Hd (show (out ++ [s]).length = out.length + 1 by simp);have hgk2 : gk' + (out.length + 1) ≤ 100 := jj;clear hw hf HWL HWL2 HDF;go_wp2_with fail
         go_roundg (gk')
         case measure => omega
         case rel => exact ⟨wl,out ++ [s],seen.set s true,Aw2,A6,cw2,c6,rfl,by rw [HLEN.out],HW,by rw [HLEN.out]; exact HO,by rw [HLEN.out]; exact HD,HSNR,HDF2,by rw [HLEN.out]; exact hgk2,HXN,HF⟩
theorem ft.low {w1 : World} {e' : Ending} (hf : Fr (fun _ => False) w w1) (h : ft R w1 e' w') : ft R w e' w' := by
 obtain ⟨v',ys,h1,h2,h3,h4⟩ := h;exact ⟨v',ys,h1,ai h2 hf.size,h3,hf.trans' h4⟩
theorem yx (B : Nat) (K : Nat → Prop) (mb : Nat) (mv : MS) (s : Nat) (e0 : Int) (w : World) (h : b6 w B K mb mv (s : Int) e0) (hok : MOk mv) (hmz : msz mv ≤ 200) (hs : s < mv.length) (R : List Nat) (hclo : clo mv [s] = some R) :
    Calls prog 351 #[.pointer (some ⟨mb,0,none⟩)] w (ft R w) := by
 have hf := Fr.a1 w (.cells #[.int .i64 (s : Int)] 3);have HF := Hd hf;have b1 : w.cell? ⟨mb,1,none⟩ = some (.int .i64 (s : Int)) := by
  obtain ⟨v,vals,h⟩ := h;exact h.blk.cell 1
 have HC := Hd (od B K mb mv (s : Int) e0 (w.alloc (.cells #[.int .i64 (s : Int)] 3)) (h.frF hf) hok hmz [s] (fun x hx => by rw [List.mem_singleton.1 hx]; exact hs) 0 (.slice (some ⟨w.heap.size,0,none⟩) 1 1) (World.ownsRow_lit w #[.int .i64 (s : Int)] 1 (Nat.zero_le _) de rfl) R hclo);clear h hok hf;go_enter func351,ntmps351;go_wp2_with (go_at_call 368; refine HC.mono ?_; intro e2 w2 h2; obtain ⟨v',ys,rfl,hr,hp,hf2⟩ := ft.low HF.out h2);have HR := Hd hr;have HP := Hd hp;have HF2 := Hd hf2;clear h2 hr hp hf2 HC;go_wp2_with fail;go_ret;exact ⟨v',ys,rfl,HR,HP,HF2⟩
theorem yy (he : P.underlying e = some .bool) (d : Nat) (a b : Bool) (w : World) : (Op.equalIn (d + 1) e (.bool a) (.bool b)).run P w = .ok (a == b) w := by
 simp only [Op.equalIn,Sem.run_bind,run_underlying he,Result.andThen_ok,Sem.run_pure]
theorem s9 (he : P.underlying e = some .bool) : P.plainKey e = true := by
 unfold Program.plainKey;rw [he]
theorem Fh (a c : Int) (b d : Bool) (w : World) : (binOp BinOp.eql 459 (.agg #[.int .i64 a,.bool b]) (.agg #[.int .i64 c,.bool d])).run prog w = .ok (.bool (a == c && b == d)) w := by
 have hfs : ∃ f1 f2,prog.fieldsOf 459 = #[f1,f2] ∧ f1.name ≠ "_" ∧ f2.name ≠ "_" ∧ f1.offset = 0 ∧ f2.offset = 1 ∧ prog.underlying f1.type = some (.int .i64) ∧ prog.underlying f2.type = some .bool := by
  unfold Program.fieldsOf;rw [underlying459];exact ⟨_,_,rfl,by decide,by decide,rfl,rfl,underlying3,underlying4⟩
 obtain ⟨f1,f2,hfs,n1,n2,o1,o2,t1,t2⟩ := hfs;have hu : prog.underlying 459 = some (.struct (prog.fieldsOf 459)) := by
  unfold Program.fieldsOf;rw [underlying459]
 have h : (Op.equal 459 (.agg #[.int .i64 a,.bool b]) (.agg #[.int .i64 c,.bool d])).run prog w = .ok (a == c && b == d) w := by
  show (Op.equalIn (9998 + 1 + 1) 459 _ _).run prog w = _;rw [run_equalIn_struct w (9998 + 1) 459 _ _ hu kr,hfs];simp only [Op.eqFields,if_pos n1,if_pos n2,o1,o2];by_cases h1 : a = c
  · simp [run_part_plain w (aP t1),run_part_plain w (s9 t2),dH t1,yy t2,h1];cases b <;> cases d <;> rfl
  · simp [run_part_plain w (aP t1),dH t1,h1]
 show ((Op.equal 459 _ _ >>= fun r => pure (Value.bool r)) : Sem Value).run prog w = _;rw [Sem.run_bind,h];rfl
theorem BK (B : Nat) (K : Nat → Prop) (mb : Nat) (mv : MS) (b0 e0 : Int) (w : World) (h : b6 w B K mb mv b0 e0) (hok : MOk mv) (hmz : msz mv ≤ 200) (s : Nat) (hs : s < mv.length) (g : Nat) (hg : Blk w g 3 #[.int .i64 (s : Int)]) (sn : Int) (sb : Bool) (R : List Nat) (hclo : clo mv (cK (mv.getD s []) sn sb) = some R) :
    Calls prog 369 #[.pointer (some ⟨mb,0,none⟩),.slice (some ⟨g,0,none⟩) 1 1,.agg #[.int .i64 sn,.bool sb]] w (ft R w) := by
 have hf0 := Fr.a1 w (.cells #[.int .i64 sn,.bool sb] 459);have HF0 := Hd hf0;have hM0 := h.frF hf0;have hgB : Blk (w.alloc (.cells #[.int .i64 sn,.bool sb] 459)) g 3 #[.int .i64 (s : Int)] := hg.fr hf0 id;have HSY := Hd (Blk.new w 459 #[.int .i64 sn,.bool sb]);have HC := Hd (fun (w1 : World) (xs : List Nat) (v : Value) (B' : Nat) (hf : Fr (fun _ => False) w w1) (hx : xs = cK (mv.getD s []) sn sb) (hr : ap w1 B' v (nI xs)) => od B K mb mv b0 e0 w1 (h.frF hf) hok hmz xs (fun x hx2 => by
  rw [hx] at hx2;unfold cK at hx2;obtain ⟨m,hm,rfl⟩ := List.mem_map.1 hx2;refine hok (mv.getD s []) ?_ m (List.mem_filter.1 hm).1;rw [List.getD_eq_getElem?_getD,List.getElem?_eq_getElem hs];exact List.getElem_mem hs) B' v hr R (by rw [hx]; exact hclo))
 have HEQ := Hd Fh;obtain ⟨mvv,vals,hma⟩ := hM0;have hb := hma.blk;have hm := hma.mvs;obtain ⟨i3,hi3,hz30,hz31,hz32⟩ := info_parts info3;obtain ⟨A0,c0,hvt⟩ := ad hm.own;subst hvt;obtain ⟨og,hA0,hog,hogl,_⟩ := ar hm.own jj;subst hA0;obtain ⟨rowm,hrowm⟩ : ∃ rowm,rowm = mv.getD s [] := ⟨_,rfl⟩;have hrz : rowm.length ≤ msz mv := by rw [hrowm]; exact jL mv s
 have hrm := hm.each s hs;rw [← hrowm] at hrm HC;obtain ⟨Am,cm,hvm⟩ := ad hrm;have m0 := hb.c0;have o0 : (w.alloc (.cells #[.int .i64 sn,.bool sb] 459)).cell? ⟨og,s,none⟩ = some (.slice Am rowm.length cm) := by
  have hln := hm.len;rw [World.ownsRow.cellAt hm.own s jj,← hvm,List.getD_eq_getElem?_getD,List.getElem?_eq_getElem jj];rfl
 rw [hvm] at hrm;have g0 := hgB.c0;have HRM := Hd hrm;have hslt : (s : Int) < (mv.length : Int) := jj;have hsz0 := al1 w (.cells #[.int .i64 sn,.bool sb] 459);clear h hf0 hgB hg hma hb hm hrm hvm hclo hrowm hok;go_enter func369,ntmps369;go_wp2_with fail;generalize (w.alloc (.cells #[.int .i64 sn,.bool sb] 459)) = w0 at *
 go_loopg [7,14] (2) (fun gk ov iv wr => (gk = 2 ∧ ov = .slice none 0 0 ∧ iv = .int .i64 0 ∧ w0 = wr) ∨ (gk = 1 ∧ ∃ (xs : List Nat) (A : Option Addr) (c : Nat),ov = .slice A xs.length c ∧ iv = .int .i64 1 ∧ xs = cK rowm sn sb ∧ ap wr w0.heap.size (.slice A xs.length c) (nI xs) ∧ Fr (fun j => w0.heap.size ≤ j) w0 wr))
 case atStart => exact .inl ⟨rfl,rfl,rfl,rfl⟩
 case round =>
  rcases hrel with ⟨rfl,rfl,rfl,rfl⟩ | ⟨rfl,xs,A,c,rfl,rfl,hxs,hr,hf⟩
  · go_wp2_with fail
    go_loopw [7,26] (fun ov iv wr => ∃ (k : Nat) (xs : List Nat) (A : Option Addr) (c : Nat),ov = .slice A xs.length c ∧ iv = .int .i64 (k : Int) ∧ k ≤ rowm.length ∧ xs = cK (rowm.take k) sn sb ∧ ap wr w0.heap.size (.slice A xs.length c) (nI xs) ∧ Fr (fun j => w0.heap.size ≤ j) w0 wr) (fun _ iv _ => rowm.length - (intOf iv).toNat)
    case atStart => exact ⟨0,[],none,0,rfl,rfl,Nat.zero_le _,by simp [cK],World.ownsRow_nil _ _ _ _,Fr.refl _ _⟩
    case round =>
     obtain ⟨k,xs,A,c,rfl,rfl,hk,hxs,hr,hf⟩ := hrel;have HF := Hd hf;have HXS := Hd hxs;have hszq := hf.size;have hxl : xs.length ≤ 300 := by
      rw [hxs];unfold cK;rw [List.length_map];have := List.length_filter_le (l5 sn sb) (rowm.take k);rw [List.length_take] at this;omega
     clear hxs m0 o0 g0;by_cases hkl : k < rowm.length
     · have hlt2 : (k : Int) < (rowm.length : Int) := jj;obtain ⟨m,hm⟩ : ∃ m,rowm[k]? = some m := ⟨_,List.getElem?_eq_getElem hkl⟩;have hrq := aa HRM.out hf (fun j hj h => by have := (HRM.lt j hj).2; omega);obtain ⟨gm,hAm,_,hgml,_⟩ := ar hrq jj;subst hAm;have hmcell : ∀ j,j < 4 → wr.cell? ⟨gm,k * 4 + j,none⟩ = (mvC m)[j]? := fun j hj => by
        rw [World.ownsRow.cellAt hrq (k * 4 + j) jj];exact g9 rowm k m j hm hj
       have q0 : wr.cell? ⟨gm,k * 4,none⟩ = some (.int .i64 m.1) := hmcell 0 jj;have q1 : wr.cell? ⟨gm,k * 4 + 1,none⟩ = some (.bool m.2.1) := hmcell 1 jj;have q2 : wr.cell? ⟨gm,k * 4 + 2,none⟩ = some (.bool m.2.2.1) := hmcell 2 jj;have q3 : wr.cell? ⟨gm,k * 4 + 3,none⟩ = some (.int .i64 (m.2.2.2 : Int)) := hmcell 3 jj;have HPU := Hd (s8 rowm k m sn sb hm);obtain ⟨m1,m2,m3,m4⟩ := m;simp only at q0 q1 q2 q3 HPU;have hfa := Fr.a1 wr (.cells #[.int .i64 m1,.bool m2,.bool m3,.int .i64 (m4 : Int)] 474);have HFA := Hd hfa;have hza := al1 wr (.cells #[.int .i64 m1,.bool m2,.bool m3,.int .i64 (m4 : Int)] 474);have hbx := Blk.new wr 474 #[.int .i64 m1,.bool m2,.bool m3,.int .i64 (m4 : Int)];have hsy := (HSY.fr hf (fun h => by have := HSY.lt; omega)).fr hfa id;have y0 := hbx.c0;have y1 := hbx.c1;have y2 := hbx.c2;have y3 := hbx.c3;have z0 := hsy.c0;have z1 := hsy.c1;have hra := aa hr hfa ii;rw [cq] at hra;have HRA := Hd hra;have HR := Hd hr;have HF2 := Hd (HF.andF hfa);have HR2 := Hd (ap.fr hr hfa ii);obtain ⟨bb,hbb⟩ : ∃ bb,(m1 == sn && m2 == sb) = bb := ⟨_,rfl⟩;have heq : ∀ w,(binOp BinOp.eql 459 (.agg #[.int .i64 m1,.bool m2]) (.agg #[.int .i64 sn,.bool sb])).run prog w = .ok (.bool bb) w := fun w => by rw [← hbb]; exact HEQ.out m1 sn m2 sb w
       have HSM := Hd (show l5 sn sb (m1,m2,m3,m4) = (!m3 && bb) by unfold l5; rw [← hbb]);have hnew : ∀ (A' : Option Addr) (c' : Nat) (xs' : List Nat) (w8 : World),xs' = cK (rowm.take (k + 1)) sn sb → ap w8 w0.heap.size (.slice A' xs'.length c') (nI xs') → Fr (fun j => w0.heap.size ≤ j) w0 w8 → ∃ (k' : Nat) (xs : List Nat) (A : Option Addr) (c : Nat),Value.slice A' xs'.length c' = .slice A xs.length c ∧ Value.int .i64 ((k : Int) + 1) = .int .i64 (k' : Int) ∧ k' ≤ rowm.length ∧ xs = cK (rowm.take k') sn sb ∧ ap w8 w0.heap.size (.slice A xs.length c) (nI xs) ∧ Fr (fun j => w0.heap.size ≤ j) w0 w8 := fun A' c' xs' w8 h1 h2 h3 => ⟨k + 1,xs',A',c',rfl,by go_num,hkl,h1,h2,h3⟩;have HNEW := Hd hnew;clear hrq hmcell hm hfa hbx hsy hr hf hra hbb hnew;have hcond : (!m3 && bb) = true ∨ (!m3 && bb) = false := by cases m3 <;> cases bb <;> simp
       rcases hcond with hc | hc
       · have hm3 : m3 = false ∧ bb = true := by cases m3 <;> cases bb <;> simp at hc ⊢
         obtain ⟨rfl,rfl⟩ := hm3;clear hc;go_wp2_with (at_builtin; refine wpList_append_own_at _ rfl _ _ 99 rfl w0.heap.size 3 i3 _ 1 8 underlying99 hi3 hz30 hz31 hz32 rfl de _ xs.length ((nI xs).map (.int .i64)) (by rfl) (HRA.alloc _) ⟨wr.heap.size + 1,0,none⟩ 1 1 [.int .i64 (m4 : Int)] (by rfl) rfl (by have h := World.news_of_block (heap_alloc_new (wr.alloc (.cells #[.int .i64 m1,.bool m2,.bool false,.int .i64 (m4 : Int)] 474)) (.cells #[.int .i64 (m4 : Int)] 3)); rw [hza] at h; exact h) (by intro u hu; rw [List.mem_singleton] at hu; rw [hu]; rfl) (by unfold maxLen; omega) jj (by simp; omega) ?_; intro v8 w8 hown8 hgr8 _ hat8; obtain ⟨A8,c8,hv8⟩ := ad hown8; subst hv8);have HW2 := Hd (show ap w8 w0.heap.size (.slice A8 (xs ++ [m4]).length c8) (nI (xs ++ [m4])) by
          unfold ap;rw [cq,pK,List.length_append,List.map_append];exact hown8)
         have HF3 := Hd (((HF2.alloc _).grown hgr8 (fun j hj e => (HRA.lt j e).1)));have HXS2 := Hd (show xs ++ [m4] = cK (rowm.take (k + 1)) sn sb by rw [HPU.out,if_pos (by rw [HSM.out]; rfl),HXS.out]);have HLEN := Hd (show (xs ++ [m4]).length = xs.length + 1 by simp);clear hown8 hgr8 hat8 q0 q1 q2 q3 y0 y1 y2 y3 z0 z1 HRA HR2 heq HF HXS HR HFA;go_wp2_with fail;go_roundw
         case rel => exact HLEN.out ▸ HNEW.out A8 c8 (xs ++ [m4]) w8 HXS2.out HW2.out HF3.out
         case measure => simp only [intOf]; omega
       · have HXS2 := Hd (show xs = cK (rowm.take (k + 1)) sn sb by rw [HPU.out,if_neg (by rw [HSM.out,hc]; decide),HXS.out]);cases m3 with
         | true =>
          go_wp2_with fail;go_roundw
          case rel => exact HNEW.out A c xs _ HXS2.out HR2.out HF2.out
          case measure => simp only [intOf]; omega
         | false =>
          have hb2 : bb = false := by cases bb <;> simp at hc ⊢
          subst hb2;go_wp2_with fail;go_roundw
          case rel => exact HNEW.out A c xs _ HXS2.out HR2.out HF2.out
          case measure => simp only [intOf]; omega
     · obtain rfl : k = rowm.length := jj;have HR := Hd hr;have HXS2 := Hd (show xs = cK rowm sn sb by have h := HXS.out; rw [List.take_length] at h; exact h);clear hr hf HXS;go_wp2_with fail
       go_roundg (1)
       case measure => omega
       case rel => exact .inr ⟨rfl,xs,A,c,rfl,rfl,HXS2,HR,HF⟩
  · have HR := Hd hr;have HF := Hd ((HF0.trans' (hf.shut (Nat.le_refl _))));have HCC := Hd (HC.out wr xs _ _ HF.out hxs hr);clear m0 o0 g0 hr hf hxs;go_wp2_with (go_at_call 368; refine HCC.mono ?_; intro e2 w2 h2; obtain ⟨v',ys,rfl,hr,hp,hf2⟩ := ft.low HF.out h2);have HR := Hd hr;have HP := Hd hp;have HF2 := Hd hf2;clear h2 hr hp hf2;go_ret;exact ⟨v',ys,rfl,HR,HP,HF2⟩
def aA : Int := 4611686018427387904
def keysOf {α : Type} (l : List (Ent α)) : List α := l.map (·.k)
def bQ (w : World) (rb : Nat) (l : List (Ent Place)) (c : Nat) : Prop := be k3 w rb l c ∧ ∀ e ∈ l,e.v = .int .i64 aA
theorem bQ.fr {S : Nat → Prop} (h : bQ w rb l c) (hf : Fr S w w') (hn : ¬ S rb) : bQ w' rb l c := ⟨h.1.fr hf hn,h.2⟩
def outs (lo : List (Ent Int)) (om : Nat → List (Ent Edge) × Nat) (n : Int) : List Edge :=
 match bc lo n with
 | some (.map (some r)) => keysOf (om r).1
 | _ => []
structure Fo (w : World) (fb mb re ro rb : Nat) (le : List (Ent Edge)) (ce : Nat) (lo : List (Ent Int)) (co : Nat) (om : Nat → List (Ent Edge) × Nat) : Prop where
 blk : Blk w fb 425 #[.pointer (some ⟨mb,0,none⟩),.int .i64 10000,.int .i64 (-9223372036854775808),.map (some re),.map (some ro),.map (some rb)]
 edges : be k3 w re le ce
 ev : ∀ e ∈ le,e.v = .int .i64 aA
 out : be k1 w ro lo co
 ov : ∀ e ∈ lo,∃ r,e.v = .map (some r) ∧ be k3 w r (om r).1 (om r).2 ∧ r ≠ rb ∧ r ≠ re ∧ r ≠ ro ∧ (∀ x ∈ (om r).1,x.v = .bool true) ∧ ∀ k ∈ keysOf (om r).1,k ∈ keysOf le ∧ k.1 ∈ keysOf lo ∧ k.2.2 ∈ keysOf lo
 ne : re ≠ rb ∧ ro ≠ rb ∧ fb ≠ rb ∧ ro ≠ re
theorem Fo.fr (h : Fo w fb mb re ro rb le ce lo co om) (hf : Fr (fun j => j = rb) w w') : Fo w' fb mb re ro rb le ce lo co om where
 blk := h.blk.fr hf h.ne.2.2.1
 edges := h.edges.fr hf h.ne.1
 ev := h.ev
 out := h.out.fr hf h.ne.2.1
 ov := fun e he => by
  obtain ⟨r,h1,h2,h3,h4⟩ := h.ov e he;exact ⟨r,h1,h2.fr hf h3,h3,h4⟩
 ne := h.ne
def td (L : List Int → Prop) (w : World) (e : Ending) (w' : World) : Prop := ∃ A c l,e = .returned (.slice A (List.length l) c) ∧ w'.ownsRow w.heap.size 3 1 (.slice A l.length c) l.length (l.map (.int .i64)) ∧ l.length ≤ 4096 ∧ L l ∧ Fr (fun _ => False) w w'
structure Env (nx : Nx) (U : List Place) (Q : Place → Prop) (M : World → Prop) (mb rb : Nat) (lo : List (Ent Int)) (om : Nat → List (Ent Edge) × Nat) : Prop where
 mfr : ∀ w w',M w → Fr (fun j => j = rb) w w' → M w'
 next : ∀ w x n b g,Q x → M w → Blk w g 3 #[.int .i64 x.2.2] → Calls prog 369 #[.pointer (some ⟨mb,0,none⟩),.slice (some ⟨g,0,none⟩) 1 1,.agg #[.int .i64 n,.bool b]] w (td (fun l => ∀ t,t ∈ l ↔ t ∈ nx x.2.2 n b) w)
 stable : ∀ x y,Q x → d9 nx (outs lo om) x y → Q y
 inU : ∀ x,Q x → x ∈ U
 node : ∀ x,Q x → x.2.1 ∈ keysOf lo
def mg (S : Place → Place → Prop) (Q : Place → Prop) (rb : Nat) (l : List (Ent Place)) (P : List Place → Prop) (w : World) (e : Ending) (w' : World) : Prop :=
 e = .returned (.tuple #[]) ∧ ∃ l' c',bQ w' rb l' c' ∧ Ext S (keysOf l) (keysOf l') ∧ (∀ y ∈ keysOf l',Q y) ∧ P (keysOf l') ∧ Fr (fun j => j = rb) w w'
def mh (nx : Nx) (U : List Place) (Q : Place → Prop) (M : World → Prop) (fb mb re ro rb : Nat) (le : List (Ent Edge)) (ce : Nat) (lo : List (Ent Int)) (co : Nat) (om : Nat → List (Ent Edge) × Nat) (m : Nat) : Prop :=
 ∀ w (x : Place) l c,Fo w fb mb re ro rb le ce lo co om → M w → bQ w rb l c → (∀ y ∈ keysOf l,Q y) → Q x → eq U (keysOf l) ≤ m →
  Calls prog 352 #[.pointer (some ⟨fb,0,none⟩),.agg #[.int .i64 x.1,.int .i64 x.2.1,.int .i64 x.2.2],.int .i64 aA] w (mg (d9 nx (outs lo om)) Q rb l (fun B => x ∈ B) w)
theorem be.ne_row {α : Type} {K : α → Value} {r : Nat} {l : List (Ent α)} {e size n : Nat} {v : Value} {xs : List Value} (h : be K w r l c) (hr : w.ownsRow B e size v n xs) : v.ownBlock ≠ some r := by
 intro hv;rcases hr.2 with ⟨rfl,_⟩ | ⟨g,cap,cur,rfl,_,hh,_⟩
 · cases hv
 · have : g = r := by simpa [Value.ownBlock] using hv
   subst this;exact h.ne_blk (show Blk w g e cur from hh) rfl
theorem BL {nx : Nx} (E : Env nx U Q M mb rb lo om) (IH : mh nx U Q M fb mb re ro rb le ce lo co om m)
    (x : Place) (n : Int) (bk : Bool) (tn : Int) (w : World) (l : List (Ent Place)) (c : Nat) (hF : Fo w fb mb re ro rb le ce lo co om) (hM : M w) (hB : bQ w rb l c) (hQ : ∀ y ∈ keysOf l,Q y) (hx : Q x) (hT : ∀ t ∈ nx x.2.2 n bk,Q (x.1,tn,t)) (hle : eq U (keysOf l) ≤ m) :
    Calls prog 354 #[.pointer (some ⟨fb,0,none⟩),.agg #[.int .i64 x.1,.int .i64 x.2.1,.int .i64 x.2.2],.agg #[.int .i64 n,.bool bk],.int .i64 tn,.int .i64 aA] w (mg (d9 nx (outs lo om)) Q rb l (fun B => ∀ t ∈ nx x.2.2 n bk,(x.1,tn,t) ∈ B) w) := by
 have HIH := Hd IH;have HQ := Hd hQ;have HT := Hd hT;have HLE := Hd hle;have hb1 := Blk.new w 432 #[.int .i64 x.1,.int .i64 x.2.1,.int .i64 x.2.2];have hb2 := Blk.new (w.alloc (.cells #[.int .i64 x.1,.int .i64 x.2.1,.int .i64 x.2.2] 432)) 459 #[.int .i64 n,.bool bk];have hz := al1 w (.cells #[.int .i64 x.1,.int .i64 x.2.1,.int .i64 x.2.2] 432);rw [hz] at hb2;have hf1 : Fr (fun j => j = rb) w ((w.alloc (.cells #[.int .i64 x.1,.int .i64 x.2.1,.int .i64 x.2.2] 432)).alloc (.cells #[.int .i64 n,.bool bk] 459)) := ((Fr.refl _ w).alloc _).alloc _;have hf2 := Fr.a2 w (.cells #[.int .i64 x.1,.int .i64 x.2.1,.int .i64 x.2.2] 432) (.cells #[.int .i64 n,.bool bk] 459);have hb1' := hb1.alloc (.cells #[.int .i64 n,.bool bk] 459);go_enter func354,ntmps354;go_wp2_with fail;generalize (w.alloc (.cells #[.int .i64 x.1,.int .i64 x.2.1,.int .i64 x.2.2] 432)).alloc (.cells #[.int .i64 n,.bool bk] 459) = w1 at *;have HF1 := Hd (hF.fr hf1);have HM1 := Hd (E.mfr _ _ hM hf1);have HB1 := Hd (hB.fr hf2 id);have HFF := Hd hf2;have HX := Hd hb1';have HN := Hd (fun w2 g => E.next w2 x n bk g hx);have HEM := Hd E.mfr;have c0 := HF1.blk.c0;have c1 := hb1'.c2;have c2 := hb2.c0;have c3 := hb2.c1;have hl2 := hb2.lt;have hlb := HF1.blk.lt;clear hb1 hb2 hb1' hf1 hf2 hz hF hM hB hQ hT hle IH
 go_region_law (first
  | (go_simp; go_at_call 369; have F0 : Fr (fun _ => False) w1 (w1.alloc (Obj.cells #[Value.int IntKind.i64 x.2.2] 3)) := (Fr.refl _ w1).alloc _; refine (HN _ _ (HEM _ _ HM1 (Fr.mono (S := fun _ => False) (by repeat' (first | exact F0 | refine Fr.drew ?_)) uu)) (by repeat' (first | exact Blk.new _ _ _ | refine Blk.drew ?_))).mono ?_; rintro e w2 ⟨A,c4,L,rfl,hrow,hlen,hL,hf2⟩; have F2 : Fr (fun _ => False) w1 w2 := Fr.trans' (by repeat' (first | exact F0 | refine Fr.drew ?_)) hf2)
  | fail)
 all_goals
  have HF2 := Hd (HF1.fr (F2.mono uu));have HM2 := Hd (HEM _ _ HM1 (F2.mono uu));have HB2 := Hd (HB1.fr F2 id);have HX2 := Hd (HX.fr F2 id);have HR2 := Hd hrow;have HL := Hd hL;have HFW := Hd (HFF.trans' F2);have hnr := HB2.1.ne_row hrow;clear hrow hL hf2 F0 F2 c0 c1 c2 c3
  try go_simp
  go_wp2_with fail
  go_loopw [22] (fun iv wr => ∃ (k : Nat) (l1 : List (Ent Place)) (cb1 : Nat),iv = .int .i64 (k : Int) ∧ k ≤ L.length ∧ bQ wr rb l1 cb1 ∧ Ext (d9 nx (outs lo om)) (keysOf l) (keysOf l1) ∧ (∀ y ∈ keysOf l1,Q y) ∧ (∀ j,j < k → (x.1,tn,L.getD j 0) ∈ keysOf l1) ∧ Fr (fun j => j = rb) w2 wr) (fun iv _ => L.length - (intOf iv).toNat)
  case atStart => exact ⟨0,l,c,rfl,Nat.zero_le _,HB2,Ext.refl _,HQ,fun j hj => absurd hj jj,Fr.refl _ _⟩
  case round =>
   obtain ⟨k,l1,cb1,rfl,hk,hb,hext,hq,hin,hf⟩ := hrel;have HXR := Hd (HX2.fr hf (fun h => HB2.1.ne_blk HX2.out h.symm));have x0 := HXR.c0;have HBR := Hd hb;have HE := Hd hext;have HQR := Hd hq;have HIN := Hd hin;have HFR := Hd hf;by_cases hlt : k < L.length
   · have hlt' : (k : Int) < (L.length : Int) := jj;have hrr := aa HR2.out hf (fun j hj h => hnr (by rw [hj,h]));obtain ⟨ga,rfl,_,_,_⟩ := ar hrr jj;have hck : wr.cell? ⟨ga,k,none⟩ = some (.int .i64 (L.getD k 0)) := by
      rw [World.ownsRow.cellAt hrr k jj,List.getD_eq_getElem?_getD,List.getElem?_eq_getElem hlt];simp
     have HMEM := Hd (show L.getD k 0 ∈ nx x.2.2 n bk from (HL _).1 (by rw [List.getD_eq_getElem?_getD,List.getElem?_eq_getElem hlt]; exact List.getElem_mem hlt));have HK := Hd (HIH.out wr (x.1,tn,L.getD k 0) l1 cb1 (HF2.fr hf) (HEM _ _ HM2.out hf) hb hq (HT _ HMEM) (Nat.le_trans (jw hext.1) HLE));obtain ⟨t,ht⟩ : ∃ t,t = L.getD k 0 := ⟨_,rfl⟩;have HTK := Hd ht;rw [← ht] at hck HK;clear hrr hb hext hq hin hf ht;go_wp2_with (go_at_call 352; refine HK.mono ?_; rintro e w3 ⟨rfl,l3,cb3,hb3,hext3,hq3,hin3,hf3⟩; have hsz3 := hf3.size);have HREL := Hd (show ∀ j,j < k + 1 → (x.1,tn,L.getD j 0) ∈ keysOf l3 from fun j hj => by
      by_cases he : j = k
      · rw [he,← HTK.out]; exact hin3
      · exact hext3.1 _ (HIN.out j jj))
     go_roundw
     case rel => exact ⟨k + 1,l3,cb3,by go_num,hlt,hb3,HE.trans hext3,hq3,HREL,HFR.trans' hf3⟩
     case measure => simp only [intOf]; omega
   · have hlt' : ¬ (k : Int) < (L.length : Int) := jj;have hkn : k = L.length := jj;have HEND := Hd (show ∀ t ∈ nx x.2.2 n bk,(x.1,tn,t) ∈ keysOf l1 from fun t ht => by
      obtain ⟨j,hj,he⟩ := List.getElem_of_mem ((HL.out t).2 ht);have := HIN.out j jj
      rwa [List.getD_eq_getElem?_getD,List.getElem?_eq_getElem hj,Option.getD_some,he] at this)
     clear hb hext hq hin hf;go_wp2_with fail
     go_end0;exact ⟨rfl,l1,cb1,HBR,HE,HQR,HEND,(HFW.mono uu).trans' HFR⟩
theorem oe {α : Type} [DecidableEq α] {l : List (Ent α)} {x : α} {v : Value} (hx : x ∈ keysOf l) (hv : ∀ e ∈ l,e.v = v) : bc l x = some v := by
 cases h : bc l x with
 | none =>
  have := (bV x l).1 h;rw [(cH x l).2 hx] at this;cases this
 | some u =>
  obtain ⟨e,he,_,h2⟩ := fi h;rw [← h2,hv e he]
theorem ru {nx : Nx} (E : Env nx U Q M mb rb lo om) (IH : mh nx U Q M fb mb re ro rb le ce lo co om m)
    (x : Place) (k : Edge) (w : World) (l : List (Ent Place)) (c : Nat) (hF : Fo w fb mb re ro rb le ce lo co om) (hM : M w) (hB : bQ w rb l c) (hQ : ∀ y ∈ keysOf l,Q y) (hx : Q x) (hk : k ∈ outs lo om x.2.1) (hke : k ∈ keysOf le) (hle : eq U (keysOf l) ≤ m) :
    Calls prog 329 #[.pointer (some ⟨fb,0,none⟩),.agg #[.int .i64 x.1,.int .i64 x.2.1,.int .i64 x.2.2],.int .i64 aA,.agg #[.int .i64 k.1,.int .i64 k.2.1,.int .i64 k.2.2]] w (mg (d9 nx (outs lo om)) Q rb l (fun B => ∀ y,ju nx k x y → y ∈ B) w) := by
 have HL := Hd (fun n bk tn w l c hF hM hB hQ hT hle => BL E IH x n bk tn w l c hF hM hB hQ hx hT hle);have HT1 := Hd (show k.1 = x.2.1 → ∀ t ∈ nx x.2.2 k.2.1 false,Q (x.1,k.2.2,t) from fun h t ht => E.stable x _ hx ⟨k,hk,rfl,.inl ⟨h,rfl,ht⟩⟩);have HT2 := Hd (show k.2.2 = x.2.1 → ∀ t ∈ nx x.2.2 k.2.1 true,Q (x.1,k.1,t) from fun h t ht => E.stable x _ hx ⟨k,hk,rfl,.inr ⟨h,rfl,ht⟩⟩);have HQ := Hd hQ;have HLE := Hd hle;have hb1 := Blk.new w 432 #[.int .i64 x.1,.int .i64 x.2.1,.int .i64 x.2.2];have hb2 := Blk.new (w.alloc (.cells #[.int .i64 x.1,.int .i64 x.2.1,.int .i64 x.2.2] 432)) 71 #[.int .i64 k.1,.int .i64 k.2.1,.int .i64 k.2.2];have hz := al1 w (.cells #[.int .i64 x.1,.int .i64 x.2.1,.int .i64 x.2.2] 432);rw [hz] at hb2;have hf1 : Fr (fun j => j = rb) w ((w.alloc (.cells #[.int .i64 x.1,.int .i64 x.2.1,.int .i64 x.2.2] 432)).alloc (.cells #[.int .i64 k.1,.int .i64 k.2.1,.int .i64 k.2.2] 71)) := ((Fr.refl _ w).alloc _).alloc _;have hf2 := Fr.a2 w (.cells #[.int .i64 x.1,.int .i64 x.2.1,.int .i64 x.2.2] 432) (.cells #[.int .i64 k.1,.int .i64 k.2.1,.int .i64 k.2.2] 71);have hb1' := hb1.alloc (.cells #[.int .i64 k.1,.int .i64 k.2.1,.int .i64 k.2.2] 71);go_enter func329,ntmps329;go_wp2_with fail;generalize (w.alloc (.cells #[.int .i64 x.1,.int .i64 x.2.1,.int .i64 x.2.2] 432)).alloc (.cells #[.int .i64 k.1,.int .i64 k.2.1,.int .i64 k.2.2] 71) = w1 at *;have HF1 := Hd (hF.fr hf1);have HEM := Hd E.mfr;have HM1 := Hd (E.mfr _ _ hM hf1);have HB1 := Hd (hB.fr hf2 id);have HFF := Hd hf2;have HX := Hd hb1';have HK := Hd hb2;have c0 := HF1.blk.c3;have k0 := hb2.c0;have k1' := hb2.c1;have k2' := hb2.c2;have hg : bc le k = some (.int .i64 aA) := oe hke hF.ev;have hlk : ∀ W,Fr (fun _ => False) w1 W → (Instr.lookup 154 (.map (some re)) (.agg #[.int .i64 k.1,.int .i64 k.2.1,.int .i64 k.2.2]) false).run prog W = .ok (.int .i64 aA) W := fun W hW => by
  have := bM qF (HF1.edges.fr hW id) 154 3 underlying154 (.int .i64 0) (lD W) k false;rw [hg] at this;exact this
 have hk2 := hlk w1.drew (Fr.refl _ _).drew;clear hb1 hb2 hb1' hf1 hf2 hz hF hM hB hQ hle IH hlk hg;have x0 := HX.c0;have x1 := HX.c1;have x2 := HX.c2
 go_region_law (first
  | fail)
 all_goals
  clear hk2 c0;have HSP := Hd (show ∀ (B : List Place),(k.1 = x.2.1 → ∀ t ∈ nx x.2.2 k.2.1 false,(x.1,k.2.2,t) ∈ B) → (k.2.2 = x.2.1 → ∀ t ∈ nx x.2.2 k.2.1 true,(x.1,k.1,t) ∈ B) → ∀ y,ju nx k x y → y ∈ B from by
   rintro B h1 h2 ⟨y1,y2,y3⟩ ⟨h3,⟨h4,h5,h6⟩ | ⟨h4,h5,h6⟩⟩
   · simp only at h3 h5 h6; rw [h3,h5]; exact h1 h4 _ h6
   · simp only at h3 h5 h6; rw [h3,h5]; exact h2 h4 _ h6)
  by_cases h1 : k.1 = x.2.1
  · have HA1 := Hd (HT1.out h1);by_cases h2 : k.2.2 = x.2.1
    · have HA2 := Hd (HT2.out h2);have d1 : (k.1 == x.2.1) = true := by rw [h1]; simp
      have d2 : (k.2.2 == x.2.1) = true := by rw [h2]; simp
      have H1 := Hd h1;have H2 := Hd h2;clear h1 h2;go_wp2_with (first
       | (go_at_call 354; have FW := Fr.refl (fun _ => False) w1; refine (HL.out k.2.1 false k.2.2 _ l c (HF1.fr (Fr.mono (S := fun _ => False) fw uu)) (HEM _ _ HM1 (Fr.mono (S := fun _ => False) fw uu)) (HB1.fr (S := fun _ => False) fw id) HQ.out HA1.out HLE).mono ?_; clear HA1; rintro e w2 ⟨rfl,l2,cb2,hb2,hext2,hq2,hin2,hf2⟩; have F2 : Fr (fun j => j = rb) w1 w2 := Fr.trans' (Fr.mono (S := fun _ => False) fw uu) hf2; have kb := HK.fr F2 (fun e => HB1.1.ne_blk HK.out e.symm); have xb := HX.fr F2 (fun e => HB1.1.ne_blk HX.out e.symm); have m0 := kb.c0; have m1 := kb.c1; have m2 := kb.c2; have n0 := xb.c0; have n1 := xb.c1; have n2 := xb.c2; have nl := kb.lt; have ml := xb.lt)
       | (go_at_call 354; refine (HL.out k.2.1 true k.1 _ l2 cb2 (HF1.fr F2) (HEM _ _ HM1.out F2) hb2 hq2 HA2 (Nat.le_trans (jw hext2.1) HLE)).mono ?_; clear HA2; rintro e w3 ⟨rfl,l3,cb3,hb3,hext3,hq3,hin3,hf3⟩))
      go_end0;exact ⟨rfl,l3,cb3,hb3,hext2.trans hext3,hq3,HSP _ (fun _ t ht => hext3.1 _ (hin2 t ht)) (fun _ => hin3),(HFF.mono uu).trans' (F2.trans' hf3)⟩
    · have d1 : (k.1 == x.2.1) = true := by rw [h1]; simp
      have d2 : (k.2.2 == x.2.1) = false := by rw [beq_eq_false_iff_ne]; exact h2
      have H1 := Hd h1;have H2 := Hd h2;clear h1 h2;go_wp2_with (first
       | (go_at_call 354; have FW := Fr.refl (fun _ => False) w1; refine (HL.out k.2.1 false k.2.2 _ l c (HF1.fr (Fr.mono (S := fun _ => False) fw uu)) (HEM _ _ HM1 (Fr.mono (S := fun _ => False) fw uu)) (HB1.fr (S := fun _ => False) fw id) HQ.out HA1.out HLE).mono ?_; clear HA1; rintro e w2 ⟨rfl,l2,cb2,hb2,hext2,hq2,hin2,hf2⟩; have F2 : Fr (fun j => j = rb) w1 w2 := Fr.trans' (Fr.mono (S := fun _ => False) fw uu) hf2; have kb := HK.fr F2 (fun e => HB1.1.ne_blk HK.out e.symm); have xb := HX.fr F2 (fun e => HB1.1.ne_blk HX.out e.symm); have m0 := kb.c0; have m1 := kb.c1; have m2 := kb.c2; have n0 := xb.c0; have n1 := xb.c1; have n2 := xb.c2; have nl := kb.lt; have ml := xb.lt))
      go_end0;exact ⟨rfl,l2,cb2,hb2,hext2,hq2,HSP _ (fun _ => hin2) (fun h => absurd h H2),(HFF.mono uu).trans' F2⟩
  · by_cases h2 : k.2.2 = x.2.1
    · have HA2 := Hd (HT2.out h2);have d1 : (k.1 == x.2.1) = false := by rw [beq_eq_false_iff_ne]; exact h1
      have d2 : (k.2.2 == x.2.1) = true := by rw [h2]; simp
      have H1 := Hd h1;have H2 := Hd h2;clear h1 h2;go_wp2_with (first
       | (go_at_call 354; refine (HL.out k.2.1 true k.1 _ l c (HF1.fr (Fr.mono (S := fun _ => False) fw uu)) (HEM _ _ HM1 (Fr.mono (S := fun _ => False) fw uu)) (HB1.fr (S := fun _ => False) fw id) HQ.out HA2.out HLE).mono ?_; clear HA2; rintro e w2 ⟨rfl,l2,cb2,hb2,hext2,hq2,hin2,hf2⟩; have F2 : Fr (fun j => j = rb) w1 w2 := Fr.trans' (Fr.mono (S := fun _ => False) fw uu) hf2))
      go_end0;exact ⟨rfl,l2,cb2,hb2,hext2,hq2,HSP _ (fun h => absurd h H1) (fun _ => hin2),(HFF.mono uu).trans' F2⟩
    · have d1 : (k.1 == x.2.1) = false := by rw [beq_eq_false_iff_ne]; exact h1
      have d2 : (k.2.2 == x.2.1) = false := by rw [beq_eq_false_iff_ne]; exact h2
      have H1 := Hd h1;have H2 := Hd h2;clear h1 h2;go_wp2_with fail
      go_end0;exact ⟨rfl,l,c,HB1.fr (S := fun _ => False) fw id,Ext.refl _,HQ,HSP _ (fun h => absurd h H1) (fun h => absurd h H2),(HFF.mono uu).trans' (Fr.mono (S := fun _ => False) fw uu)⟩
theorem ja {α : Type} [DecidableEq α] (l : List (Ent α)) (x : α) (v : Value) (c : Nat) (h : b5 l x = false) : ep l x v c = l ++ [⟨x,v,c⟩] := by
 unfold ep;rw [h,if_neg Bool.false_ne_true]
theorem kT (w : World) : (zeroValue 429).run prog w = .ok (.map none) w := kr
theorem BM {nx : Nx} (E : Env nx U Q M mb rb lo om) (IH : ∀ m',m' < m → mh nx U Q M fb mb re ro rb le ce lo co om m') : mh nx U Q M fb mb re ro rb le ce lo co om m := by
 intro w x l c hF hM hB hQ hx hle;have hb1 := Blk.new w 432 #[.int .i64 x.1,.int .i64 x.2.1,.int .i64 x.2.2];have hf2 := Fr.a1 w (.cells #[.int .i64 x.1,.int .i64 x.2.1,.int .i64 x.2.2] 432);have hf1 : Fr (fun j => j = rb) w (w.alloc (.cells #[.int .i64 x.1,.int .i64 x.2.1,.int .i64 x.2.2] 432)) := (Fr.refl _ w).alloc _;have HB := Hd hB;have HQ := Hd hQ;have HLE := Hd hle;go_enter func352,ntmps352;go_wp2_with fail;generalize w.alloc (.cells #[.int .i64 x.1,.int .i64 x.2.1,.int .i64 x.2.2] 432) = w1 at *;have HF1 := Hd (hF.fr hf1);have HEM := Hd E.mfr;have HM1 := Hd (E.mfr _ _ hM hf1);have HB1 := Hd (hB.fr hf2 id);have HFF := Hd hf2;have HX := Hd hb1;have c5 := HF1.out.blk.c5;have x0 := hb1.c0;have x1 := hb1.c1;have x2 := hb1.c2;have hl1 := hb1.lt;have hlk : ∀ W,Fr (fun _ => False) w1 W → (Instr.lookup 423 (.map (some rb)) (.agg #[.int .i64 x.1,.int .i64 x.2.1,.int .i64 x.2.2]) true).run prog W = .ok (.tuple #[(bc l x).getD (.int .i64 0),.bool (bc l x).isSome]) W := fun W hW =>
  bM ud (HB1.out.1.fr hW id) 423 3 underlying423 (.int .i64 0) (lD W) x true
 by_cases hin : x ∈ keysOf l
 · have hg : bc l x = some (.int .i64 aA) := oe hin hB.2;rw [hg] at hlk;have hk1 := hlk w1 (Fr.refl _ _);have hk2 := hlk w1.drew (Fr.refl _ _).drew;have hk3 := hlk w1.drew.drew (Fr.refl _ _).drew.drew;simp only [Option.getD_some,Option.isSome_some] at hk1 hk2 hk3;clear hlk hB hQ hle IH hF hM hf1 hf2 hb1
   go_region_law (first
    | fail)
   all_goals
    clear hk1 hk2 hk3 c5;go_wp2_with fail;refine bodyPost_ret (results_none rfl _ _ _) rfl ?_;exact ⟨rfl,l,c,HB1.out.fr (S := fun _ => False) fw id,Ext.refl _,HQ.out,hin,HFF.out.mono uu |>.trans' (Fr.mono (S := fun _ => False) fw uu)⟩
 · have hg : bc l x = none := by
    rw [bV];cases hh : b5 l x with
    | false => rfl
    | true => exact absurd ((cH x l).1 hh) hin
   have hno : b5 l x = false := (bV x l).1 hg;rw [hg] at hlk;have hk1 := hlk w1 (Fr.refl _ _);have hk2 := hlk w1.drew (Fr.refl _ _).drew;have hk3 := hlk w1.drew.drew (Fr.refl _ _).drew.drew;simp only [Option.getD_none,Option.isSome_none] at hk1 hk2 hk3;clear hlk hB hQ hle hF hM hf1 hf2 hb1
   go_region_law (first
    | fail)
   all_goals
    clear hk1 hk2 hk3;go_wp2_with fail;obtain ⟨W0,hW0⟩ : ∃ W0,W0 = w1.drew := ⟨_,rfl⟩;have FW : Fr (fun _ => False) w1 W0 := by rw [hW0]; exact (Fr.refl _ _).drew
    rw [← hW0];have HBW := Hd (HB1.out.fr FW id);obtain ⟨e0,he0⟩ : ∃ e0 : Ent Place,e0 = ⟨x,.int .i64 aA,c⟩ := ⟨_,rfl⟩;have hup : ∀ W,Fr (fun _ => False) W0 W → (Instr.mapUpdate 423 (.map (some rb)) (.agg #[.int .i64 x.1,.int .i64 x.2.1,.int .i64 x.2.2]) (.int .i64 aA)).run prog W = .ok () (fS W rb (.map (l.map (Ent.me k3) ++ [Ent.me k3 e0]).toArray (c + 1))) ∧ be k3 (fS W rb (.map (l.map (Ent.me k3) ++ [Ent.me k3 e0]).toArray (c + 1))) rb (l ++ [e0]) (c + 1) := fun W hW => by
     have := (bK ud (HBW.out.1.fr hW id) 423 3 underlying423 x (.int .i64 aA));rw [ja _ _ _ _ hno,hno,if_neg Bool.false_ne_true,← he0,List.map_append] at this;exact this
    have hu2 := (hup W0.drew (Fr.refl _ _).drew).1;have HUP := Hd hup;have HE0 := Hd he0;clear he0;have d5 : W0.cell? ⟨fb,5,none⟩ = some (.map (some rb)) := by rw [hW0]; exact c5
    have y0 : W0.cell? ⟨w.heap.size,0,none⟩ = some (.int .i64 x.1) := by rw [hW0]; exact x0
    have y1 : W0.cell? ⟨w.heap.size,1,none⟩ = some (.int .i64 x.2.1) := by rw [hW0]; exact x1
    have y2 : W0.cell? ⟨w.heap.size,2,none⟩ = some (.int .i64 x.2.2) := by rw [hW0]; exact x2
    have hzl : w.heap.size < W0.heap.size := by rw [hW0]; exact hl1
    have HFW := Hd (HF1.out.fr (FW.mono uu));have HMW := Hd (HEM.out _ _ HM1.out (FW.mono uu));have HXW := Hd (HX.out.fr FW id);have HWW := Hd (HFF.out.trans' FW);clear hup c5 x0 x1 x2 hl1 hW0 FW
    go_region_law (first
     | fail)
    all_goals
     generalize hW2 : fS _ rb _ = W2;have hB2 : bQ W2 rb (l ++ [e0]) (c + 1) := by
      rw [← hW2];refine ⟨by first | exact (HUP.out W0 (Fr.refl _ _)).2 | exact (HUP.out W0.drew (Fr.refl _ _).drew).2 | exact (HUP.out W0.drew.drew (Fr.refl _ _).drew.drew).2,fun e he => ?_⟩;rcases List.mem_append.1 he with h | h
      · exact HB.out.2 e h
      · rw [List.mem_singleton] at h;rw [h,HE0.out]
     have F2 : Fr (fun j => j = rb) W0 W2 := by
      rw [← hW2];exact Fr.trans' (Fr.mono (S := fun _ => False) fw uu) (be.set_fr _ _ _)
     clear hu2 hW2 d5 y0 y1 y2 hzl;obtain ⟨en,hen,hek⟩ := List.mem_map.1 (E.node x hx);obtain ⟨rn,hv,hgm,hne1,hne2,hne3,htrue,hcl⟩ := HFW.out.ov en hen;have hgo : bc lo x.2.1 = some (.map (some rn)) := by rw [← hek,gX HFW.out.out.2.1 hen,hv]
     have hout : outs lo om x.2.1 = keysOf (om rn).1 := by unfold outs; rw [hgo]
     have HF2 := Hd (HFW.out.fr F2);have HM2 := Hd (HEM.out _ _ HMW.out F2);have hx2 := HXW.out.fr F2 (fun e => HBW.out.1.ne_blk HXW.out e.symm);have HX2 := Hd hx2;have d4 := HF2.out.blk.c4;have y1 := hx2.c1;have hzl := hx2.lt;have hg2 := hgm.fr F2 hne1;have hlk : ∀ W,Fr (fun _ => False) W2 W → (Instr.lookup 422 (.map (some ro)) (.int .i64 x.2.1) false).run prog W = .ok (.map (some rn)) W := fun W hW => by
      have := bM qE (HF2.out.out.fr hW id) 422 429 underlying422 (.map none) (kT W) x.2.1 false;rw [hgo] at this;exact this
     have hrg : ∀ W,Fr (fun _ => False) W2 W → (Instr.range 429 (.map (some rn))).run prog W = .ok (.pointer (some ⟨W.heap.size,0,none⟩)) (W.alloc (.mapIter (some rn) (om rn).2 #[] (om rn).2)) := fun W hW => (ef (α := Edge) (hg2.fr hW id) 429 71 4 underlying429).1;have l2 := hlk W2.drew (Fr.refl _ _).drew;have r2 : (Instr.range 429 (.map (some rn))).run prog W2.drew = .ok (.pointer (some ⟨W2.heap.size,0,none⟩)) (W2.drew.alloc (.mapIter (some rn) (om rn).2 #[] (om rn).2)) := hrg W2.drew (Fr.refl _ _).drew;clear hlk hrg hx2 hek hv hgm hne2 hne3;go_wp2_with fail
     go_region_law (first
      | fail)
     all_goals
      obtain ⟨W3,hW3⟩ : ∃ W3,W3 = (W2.alloc (Obj.mapIter (some rn) (om rn).2 #[] (om rn).2)).drew := ⟨_,rfl⟩;rw [← hW3];have F3 : Fr (fun _ => False) W2 W3 := by rw [hW3]; exact (by repeat' (first | exact Fr.refl _ _ | refine Fr.drew ?_ | refine Fr.alloc ?_ _))
      have hit : bp (α := Edge) W3 W2.heap.size rn (om rn).2 [] := by
       rw [hW3];exact heap_alloc_new W2 _
      have hgm3 := hg2.fr F3 id;have HB3 := Hd (hB2.fr F3 id);have HX3 := Hd (HX2.out.fr F3 id);have HG3 := Hd hgm3;have HF23 := Hd ((HWW.out.mono uu).trans' (F2.trans' (F3.mono (T := fun j => j = rb) uu)));have hszw : w.heap.size ≤ W2.heap.size := by have := HWW.out.size; have := F2.size; omega
      have hir : W2.heap.size ≠ rb := fun e => by have := hB2.1.lt; omega
      have HIT := Hd hit;clear l2 r2 hit hgm3 hW3 d4 y1 hzl hg2 hB2;go_wp2_with fail
      go_loopw [] (fun wr => ∃ (seen : List (Ent Edge)) (la : List (Ent Place)) (ca : Nat),bp wr W2.heap.size rn (om rn).2 seen ∧ (∀ e ∈ seen,e ∈ (om rn).1) ∧ (seen.map (·.b)).Nodup ∧ bQ wr rb la ca ∧ Ext (d9 nx (outs lo om)) (keysOf l ++ [x]) (keysOf la) ∧ (∀ y ∈ keysOf la,Q y) ∧ (∀ e ∈ seen,∀ y,ju nx e.k x y → y ∈ keysOf la) ∧ Fr (fun j => j = rb ∨ j = W2.heap.size) W3 wr) (fun wr => (om rn).1.length - (wr.iterSeen W2.heap.size).size)
      case atStart =>
       refine ⟨[],l ++ [e0],c + 1,HIT.out,(fun e he => by cases he),List.nodup_nil,HB3.out,?_,?_,(fun e he => by cases he),Fr.refl _ _⟩
       · have : keysOf (l ++ [e0]) = keysOf l ++ [x] := by unfold keysOf; rw [List.map_append,HE0.out]; rfl
         rw [this];exact Ext.refl _
       · intro y hy;unfold keysOf at hy;rw [List.map_append,List.mem_append] at hy;rcases hy with hy | hy
         · exact HQ.out y hy
         · rw [HE0.out] at hy;have : y = x := by simpa using hy
           rw [this];exact hx
      case round =>
       obtain ⟨seen,la,ca,hit,hsub,hnd,hba,hext,hq,hdone,hfr⟩ := hrel;have HFR0 := Hd hfr;have HBA := Hd hba;have HEX := Hd hext;have HQA := Hd hq;have HDO := Hd hdone;have hneir : rn ≠ W2.heap.size := fun e => by have := HG3.out.lt; have h9 := HIT.out; unfold bp at h9; have h8 := HG3.out.1; rw [e,h9] at h8; cases h8
       have hgr := HG3.out.fr hfr (fun h => h.elim hne1 hneir);have F2r : Fr (fun j => j = rb) W2 wr := Fr.trans (S := fun j => j = rb) (F3.mono uu) hfr (fun i hi h => h.elim id (fun h => absurd hi jj));rcases dV (P := prog) hgr hit hsub 0 with ⟨hall,hrun⟩ | ⟨e,he,hes,w5,hrun,hit5,hg5,hf5⟩
       · have hnx : ∀ ty,(Instr.next (.pointer (some ⟨W2.heap.size,0,none⟩)) false ty).run prog wr = _ := fun _ => hrun;have HEND := Hd (show ∀ z,d9 nx (outs lo om) x z → z ∈ keysOf la from fun z ⟨k,hk,hz⟩ => by
          rw [hout] at hk;obtain ⟨e,he,rfl⟩ := List.mem_map.1 hk;exact hdone e (hall e he) z hz)
         clear hrun hall hit hsub hnd hba hext hq hdone hfr hgr;go_wp2_with fail
         go_end0;exact ⟨rfl,la,ca,HBA.out,HEX.out.add HEND.out,HQA.out,HEX.out.1 x (List.mem_append_right _ (List.mem_singleton.2 rfl)),Fr.trans (S := fun j => j = rb) HF23.out HFR0.out (fun i hi h => h.elim id (fun h => absurd hi jj))⟩
       · have hnx : ∀ ty,(Instr.next (.pointer (some ⟨W2.heap.size,0,none⟩)) false ty).run prog wr = _ := fun _ => hrun;have hen5 := dt (P := prog) hg5 hit5 he;have hlm : eq U (keysOf la) < m := Nat.lt_of_le_of_lt (jw hext.1) (Nat.lt_of_lt_of_le (xt (E.inU x hx) hin) HLE.out);have hke : e.k ∈ keysOf (om rn).1 := List.mem_map.2 ⟨e,he,rfl⟩;have HAL := Hd (fun w l c h1 h2 h3 h4 h5 => ru E (IH _ hlm) x e.k w l c h1 h2 h3 h4 hx (by rw [hout]; exact hke) (hcl e.k hke).1 h5);have hcome := eE HG3.out.2.2.1 hsub hnd he hes;have HC := Hd hcome;have HMS := Hd hit.seen;have HSUB := Hd hsub;have HIT5 := Hd hit5;have F25 : Fr (fun j => j = rb) W2 w5 := Fr.trans (S := fun j => j = rb) F2r hf5 (fun i hi h => absurd h jj);have HB5 := Hd (hba.fr hf5 (fun h => hir h.symm));have hx5 := (HX3.out.fr hfr (fun h => h.elim (fun h => HB3.out.1.ne_blk HX3.out h.symm) (fun h => by have := HX3.out.lt; have := HX2.out.lt; omega))).fr hf5 (fun h => by have := HX2.out.lt; omega);have z0 := hx5.c0;have z1 := hx5.c1;have z2 := hx5.c2;have hl5 := hx5.lt;have HF25 := Hd F25;have HF5 := Hd hf5;rw [htrue e he] at hrun hen5;simp only [k3] at hrun hen5 hnx;have HE := Hd he;clear hit hsub hnd hba hext hq hdone hfr hgr hrun hes hit5 hg5 hf5 hx5 F25 F2r hcome hke hlm;go_wp2_with (go_at_call 329; refine (HAL.out _ la ca (HF2.out.fr (HF25.out.alloc _)) (HEM.out _ _ HM2.out (HF25.out.alloc _)) (HB5.out.fr (S := fun _ => False) ((Fr.refl _ _).alloc _) id) HQA.out (Nat.le_refl _)).mono ?_; rintro e6 w6 ⟨rfl,l6,c6,hb6,hext6,hq6,hin6,hf6⟩; have hs6 := hf6.size);have HI6 := Hd ((HIT5.out.fr (S := fun _ => False) ((Fr.refl _ w5).alloc _) id).fr hf6 hir);go_roundw
         case rel =>
          refine ⟨seen ++ [e],l6,c6,HI6.out,?_,HC.out.1,hb6,HEX.out.trans hext6,hq6,?_,?_⟩
          · intro a ha;rcases List.mem_append.1 ha with h | h
            · exact HSUB.out a h
            · rw [List.mem_singleton.1 h];exact HE.out
          · intro a ha y hy;rcases List.mem_append.1 ha with h | h
            · exact hext6.1 _ (HDO.out a h y hy)
            · rw [List.mem_singleton.1 h] at hy;exact hin6 y hy
          · exact ((HFR0.out.trans HF5.out (fun _ _ h => .inr h)).alloc _).trans hf6 (fun _ _ h => .inl h)
         case measure =>
          rw [HMS.out,HI6.out.seen];have := HC.out.2;simp only [List.length_append,List.length_cons,List.length_nil];omega
theorem uD {nx : Nx} (E : Env nx U Q M mb rb lo om) (m : Nat) : mh nx U Q M fb mb re ro rb le ce lo co om m :=
 Nat.strongRecOn m (fun m IH => BM E IH)
theorem kU : ∀ (f : Nat) (wait : List Nat) (seen : List Bool) (out : List Nat),dfs mv f wait seen out = some R → R.length ≤ out.length + f
 | 0,wait,seen,out,h => by
  unfold dfs at h;split at h
  · injection h with h; rw [h]; omega
  · cases h
 | f + 1,wait,seen,out,h => by
  rcases List.eq_nil_or_concat wait with rfl | ⟨l,s,rfl⟩
  · have := uC _ _ _ h;rw [this];omega
  · rw [List.concat_eq_append] at h;obtain ⟨f',hf,h2⟩ := rq h;have hff : f = f' := jj;subst hff;rcases h2 with ⟨_,h2⟩ | ⟨_,h2⟩
    · have := kU f _ _ _ h2;omega
    · have := kU f _ _ _ h2;rw [List.length_append,List.length_singleton] at this;omega
theorem yz (B : Nat) (K : Nat → Prop) (mb : Nat) (mv : MS) (b0 e0 : Int) (w : World) (h : b6 w B K mb mv b0 e0) (s : Int) (g : Nat) (hg : Blk w g 3 #[.int .i64 s]) :
    Calls prog 330 #[.pointer (some ⟨mb,0,none⟩),.slice (some ⟨g,0,none⟩) 1 1] w (IsB (decide (s = e0)) w) := by
 obtain ⟨_,b2,_,_,hml⟩ := h.cell1;have hrow : w.ownsRow g 3 1 (.slice (some ⟨g,0,none⟩) 1 1) 1 [.int .i64 s] := ⟨rfl,.inr ⟨g,1,#[.int .i64 s],rfl,Nat.le_refl _,hg,Nat.le_refl _,by unfold maxLen; omega,rfl,rfl⟩⟩;have HI := Hd (qj g 1 (some ⟨g,0,none⟩) [s] e0 w (by simp) hrow);have e1 : ([s] : List Int).contains e0 = decide (s = e0) := by
  by_cases h : s = e0
  · simp [h]
  · simp [h,Ne.symm h]
 rw [e1] at HI;generalize decide (s = e0) = bb at *;clear h hrow hg e1;go_enter func330,ntmps330;go_wp2_with fail;refine HI.mono ?_;rintro e w2 ⟨rfl,hf2⟩;go_wp2_with fail;go_ret;exact IsB.mk hf2
theorem oh (kind : Nat) (p q a : Int) (E : List Edge) (x : Place) (h : ed kind p q a E x) : ∃ s : Nat,x.2.2 = (s : Int) ∧ s < (mvK kind p q a).length := by
 have key : ∀ m : Nat,0 ≤ x.2.2 → x.2.2 < (m : Int) → ∃ s : Nat,x.2.2 = (s : Int) ∧ s < m := fun m h1 h2 => ⟨x.2.2.toNat,by omega,by omega⟩;unfold ed at h;split at h
 · exact key 3 jj jj
 · exact key 3 jj jj
 · exact key 6 jj jj
 · exact key 2 jj jj
 · exact key 4 jj jj
 · have : ∀ k : Nat,∃ m,(mvK (k + 5) p q a).length = m ∧ m = 7 := fun k => ⟨7,rfl,rfl⟩;rename_i h0 h1 h2 h3 h4
   match kind,h0,h1,h2,h3,h4,h with
   | k + 5,_,_,_,_,_,h => exact key 7 jj jj
def QK (kind : Nat) (p q a : Int) (E : List Edge) (lo : List (Ent Int)) (x : Place) : Prop := ed kind p q a E x ∧ x.1 ∈ keysOf lo ∧ x.2.1 ∈ keysOf lo
def UK (l : List Int) : List Place := l.flatMap fun x => l.flatMap fun y => [0,1,2,3,4,5,6].map fun s => (x,y,s)
theorem QK.inU (h : QK kind p q a E lo x) : x ∈ UK (keysOf lo) := by
 obtain ⟨h1,h2,h3⟩ := h;obtain ⟨s,hs,hl⟩ := oh _ _ _ _ _ _ h1;have := Fb kind p q a;unfold UK;simp only [List.mem_flatMap,List.mem_map];refine ⟨x.1,h2,x.2.1,h3,x.2.2,?_,rfl⟩;rw [hs];simp;omega
abbrev MW (w0 : World) (w : World) : Prop := Fr (fun _ => False) w0 w
theorem yA (h : b6 w0 B K mb (mvK kind p q a) 0 e0) (hrb : w0.heap.size ≤ rb)
    (hsub : ∀ n k,k ∈ outs lo om n → k ∈ E ∧ k.1 ∈ keysOf lo ∧ k.2.2 ∈ keysOf lo) : Env (nxK kind p q a) (UK (keysOf lo)) (QK kind p q a E lo) (MW w0) mb rb lo om where
 mfr := fun w w' hm hf => hm.trans hf (fun i hi h => by have h : i = rb := h; omega)
 next := fun w x n b g hx hm hg => by
  obtain ⟨s,hs,hl⟩ := oh _ _ _ _ _ _ hx.1;rw [hs] at hg ⊢;obtain ⟨R,hR,hmem⟩ := DZ kind p q a s n b;have hRl := kU _ _ _ _ hR;refine (BK B K mb (mvK kind p q a) 0 e0 w (h.frF hm) (CB _ _ _ _) (Nat.le_trans (yl _ _ _ _) jj) s hl g hg n b R hR).mono ?_;rintro e' w' ⟨v',ys,rfl,hr,hp,hf⟩;obtain ⟨A,c,hv⟩ := ad hr;subst hv;refine ⟨A,c,nI ys,rfl,hr,?_,fun t => ?_,hf⟩
  · rw [cq,hp.length_eq];simp at hRl;omega
  · rw [← hmem t];exact (hp.map _).mem_iff
 stable := fun x y hx ⟨k,hk,hs⟩ => by
  obtain ⟨hE,h1,h2⟩ := hsub _ _ hk;refine ⟨sq kind p q a E x y hx.1 ⟨k,hE,hs⟩,by rw [hs.1]; exact hx.2.1,?_⟩;rcases hs.2 with ⟨_,h3,_⟩ | ⟨_,h3,_⟩
  · rw [h3]; exact h2
  · rw [h3]; exact h1
 inU := fun x hx => hx.inU
 node := fun x hx => hx.2.2
theorem yB (n : Int) (w : World) (hF : Fo w fb mb re ro rb le ce lo co om) (hn : n ∈ keysOf lo) :
    Calls prog 327 #[.pointer (some ⟨fb,0,none⟩),.int .i64 n] w fun e w' => e = .returned (.tuple #[]) ∧ Fr (fun _ => False) w w' := by
 have c4 := hF.blk.c4;obtain ⟨en,hen,hek⟩ := List.mem_map.1 hn;obtain ⟨rn,hv,hgm,_⟩ := hF.ov en hen;have hgo : bc lo n = some (.map (some rn)) := by rw [← hek,gX hF.out.2.1 hen,hv]
 have hlk : (Instr.lookup 422 (.map (some ro)) (.int .i64 n) false).run prog w = .ok (.map (some rn)) w := by
  have := bM qE hF.out 422 429 underlying422 (.map none) (kT w) n false;rw [hgo] at this;exact this
 have he : ∀ w,(binOp BinOp.eql 429 (Value.map (some rn)) (Value.map none)).run prog w = .ok (.bool false) w := fun w => by kernel_rfl
 clear hF hek hv hgm hgo;go_enter func327,ntmps327;go_wp2
 go_end0;exact ⟨rfl,by repeat' (first | exact Fr.refl _ _ | refine Fr.drew ?_)⟩
structure FoN (w : World) (fb mb re ro rb : Nat) (le : List (Ent Edge)) (ce : Nat) (lo : List (Ent Int)) (co : Nat) (om : Nat → List (Ent Edge) × Nat) (n : Int) : Prop where
 blk : Blk w fb 425 #[.pointer (some ⟨mb,0,none⟩),.int .i64 10000,.int .i64 (-9223372036854775808),.map (some re),.map (some ro),.map (some rb)]
 edges : be k3 w re le ce
 ev : ∀ e ∈ le,e.v = .int .i64 aA
 out : be k1 w ro lo co
 ov : ∀ e ∈ lo,∃ r,e.v = .map (some r) ∧ be k3 w r (om r).1 (om r).2 ∧ r ≠ rb ∧ r ≠ re ∧ r ≠ ro ∧ (∀ x ∈ (om r).1,x.v = .bool true) ∧ ∀ k ∈ keysOf (om r).1,k ∈ keysOf le ∧ (k.1 ∈ keysOf lo ∨ k.1 = n) ∧ (k.2.2 ∈ keysOf lo ∨ k.2.2 = n)
 ne : re ≠ rb ∧ ro ≠ rb ∧ fb ≠ rb ∧ ro ≠ re
theorem Fo.toN (h : Fo w fb mb re ro rb le ce lo co om) (n : Int) : FoN w fb mb re ro rb le ce lo co om n :=
 ⟨h.blk,h.edges,h.ev,h.out,fun e he => by
  obtain ⟨r,h1,h2,h3,h4,h5,h6,h7⟩ := h.ov e he;exact ⟨r,h1,h2,h3,h4,h5,h6,fun k hk => ⟨(h7 k hk).1,.inl (h7 k hk).2.1,.inl (h7 k hk).2.2⟩⟩,h.ne⟩
theorem FoN.toFo (h : FoN w fb mb re ro rb le ce lo co om n) (hn : n ∈ keysOf lo) : Fo w fb mb re ro rb le ce lo co om :=
 ⟨h.blk,h.edges,h.ev,h.out,fun e he => by
  obtain ⟨r,h1,h2,h3,h4,h5,h6,h7⟩ := h.ov e he;exact ⟨r,h1,h2,h3,h4,h5,h6,fun k hk => ⟨(h7 k hk).1,(h7 k hk).2.1.elim id (fun h => h ▸ hn),(h7 k hk).2.2.elim id (fun h => h ▸ hn)⟩⟩,h.ne⟩
def jb (lo : List (Ent Int)) : Prop := ∀ e1 ∈ lo,∀ e2 ∈ lo,e1.v = e2.v → e1.k = e2.k
def rx (kind : Nat) (p q a : Int) (E : List Edge) (fb mb re ro rb : Nat) (le : List (Ent Edge)) (ce : Nat) (lo : List (Ent Int)) (om : Nat → List (Ent Edge) × Nat) (l : List (Ent Place)) (n : Int) (w : World) (e : Ending) (w' : World) : Prop :=
 e = .returned (.tuple #[]) ∧ ∃ lo' co' om' l' c',Fo w' fb mb re ro rb le ce lo' co' om' ∧ jb lo' ∧ bQ w' rb l' c' ∧ n ∈ keysOf lo' ∧ (∀ m ∈ keysOf lo,m ∈ keysOf lo') ∧ (∀ m ∈ keysOf lo',m ∈ keysOf lo ∨ m = n) ∧ (∀ m,outs lo' om' m = outs lo om m) ∧
  Ext (d9 (nxK kind p q a) (outs lo' om')) (keysOf l) (keysOf l') ∧ (∀ y ∈ keysOf l',QK kind p q a E lo' y) ∧ (n ∉ keysOf lo → ∀ s ∈ iF kind,(n,n,s) ∈ keysOf l') ∧ (∀ e ∈ lo',∀ r,e.v = .map (some r) → e ∈ lo ∨ w.heap.size ≤ r) ∧ Fr (fun j => j = rb ∨ j = ro) w w'
theorem QK.mono {lo' : List (Ent Int)} (h : QK kind p q a E lo x) (hl : ∀ m ∈ keysOf lo,m ∈ keysOf lo') : QK kind p q a E lo' x := ⟨h.1,hl _ h.2.1,hl _ h.2.2⟩
theorem bN {α : Type} (l : List (Ent α)) (e : Ent α) : keysOf (l ++ [e]) = keysOf l ++ [e.k] := by simp [keysOf]
theorem vV {α : Type} [DecidableEq α] (l : List (Ent α)) (e : Ent α) (x : α) (hn : e.k ∉ keysOf l) : bc (l ++ [e]) x = if x = e.k then some e.v else bc l x := by
 rw [kA];by_cases h : x = e.k
 · rw [if_pos h];have : bc l x = none := by
    rw [bV];cases hh : b5 l x with
    | false => rfl
    | true => exact absurd ((cH x l).1 hh) (by rw [h]; exact hn)
   rw [this];simp [bc,h]
 · rw [if_neg h];simp [bc,h]
theorem yC {r0 c0 : Nat} (hn : n ∉ keysOf lo) (hr : ∀ e ∈ lo,∀ r,e.v = .map (some r) → r ≠ r0) (m : Int) :
    outs (lo ++ [(⟨n,.map (some r0),c0⟩ : Ent Int)]) (fun r => if r = r0 then ([],0) else om r) m = outs lo om m := by
 unfold outs;rw [vV _ _ _ hn];by_cases h : m = n
 · subst h;rw [if_pos rfl];have : bc lo m = none := by
    rw [bV];cases hh : b5 lo m with
    | false => rfl
    | true => exact absurd ((cH m lo).1 hh) hn
   rw [this];simp [keysOf]
 · rw [if_neg h];cases hg : bc lo m with
   | none => rfl
   | some v =>
    obtain ⟨e,he,hk,hv⟩ := fi hg;cases v with
    | map r =>
     cases r with
     | none => rfl
     | some r =>
      have := hr e he r hv;simp [this]
    | _ => rfl
theorem yD (hMK : b6 w0 B K mb (mvK kind p q a) 0 e0) (hrb : w0.heap.size ≤ rb) (hro : w0.heap.size ≤ ro)
    (n : Int) (w : World) (hF : FoN w fb mb re ro rb le ce lo co om n) (hW : MW w0 w) (hB : bQ w rb l c) (hQ : ∀ y ∈ keysOf l,QK kind p q a E lo y) (hI : jb lo) (hle : ∀ k ∈ keysOf le,k ∈ E) (hn : n ∉ keysOf lo) :
    Calls prog 327 #[.pointer (some ⟨fb,0,none⟩),.int .i64 n] w (rx kind p q a E fb mb re ro rb le ce lo om l n w) := by
 have c4 := hF.blk.c4;have hno : b5 lo n = false := by
  cases hh : b5 lo n with
  | false => rfl
  | true => exact absurd ((cH n lo).1 hh) hn
 have hlk : (Instr.lookup 422 (.map (some ro)) (.int .i64 n) false).run prog w = .ok (.map none) w := by
  have := bM qE hF.out 422 429 underlying422 (.map none) (kT w) n false;rw [(bV n lo).2 hno] at this;exact this
 have he : ∀ w,(binOp BinOp.eql 429 (Value.map none) (Value.map none)).run prog w = .ok (.bool true) w := fun w => by kernel_rfl
 have hf1 := Fr.a1 w (.map #[] 0);have hup := bK (P := prog) qE (hF.out.fr hf1 id) 422 429 underlying422 n (.map (some w.heap.size));rw [ja _ _ _ _ hno,hno,if_neg Bool.false_ne_true] at hup;obtain ⟨W2,hW2⟩ : ∃ W2,W2 = fS (w.alloc (.map #[] 0)) ro (.map ((lo ++ [(⟨n,.map (some w.heap.size),co⟩ : Ent Int)]).map (Ent.me k1)).toArray (co + 1)) := ⟨_,rfl⟩;rw [← hW2] at hup;have hF2 : Fr (fun j => j = ro) w W2 := by
  rw [hW2];exact (hf1.mono uu).trans' (be.set_fr _ _ _)
 have hu : (Instr.mapUpdate 422 (.map (some ro)) (.int .i64 n) (.map (some w.heap.size))).run prog (w.alloc (.map #[] 0)) = .ok () W2 := hup.1;have hGO := hup.2;have hrr : ∀ e ∈ lo,∀ r,e.v = .map (some r) → r < w.heap.size := fun e he r hr => by
  obtain ⟨r',h1,h2,_⟩ := hF.ov e he;rw [hr] at h1;injection h1 with h1;injection h1 with h1;rw [h1];exact h2.lt
 have hrol := hF.out.lt;have hFo : Fo W2 fb mb re ro rb le ce (lo ++ [(⟨n,.map (some w.heap.size),co⟩ : Ent Int)]) (co + 1) (fun r => if r = w.heap.size then ([],0) else om r) := by
  have hbk := hF.blk.fr hF2 (fun h => hF.out.ne_blk hF.blk h.symm);refine ⟨hbk,hF.edges.fr hF2 (fun h => hF.ne.2.2.2 h.symm),hF.ev,hGO,fun e hee => ?_,hF.ne⟩;rw [bN];rcases List.mem_append.1 hee with h | h
  · obtain ⟨r,h1,h2,h3,h4,h5,h6,h7⟩ := hF.ov e h;have hne : r ≠ w.heap.size := fun h => by have := h2.lt; omega
    refine ⟨r,h1,?_,h3,h4,h5,?_,?_⟩
    · rw [if_neg hne];exact h2.fr hF2 h5
    · rw [if_neg hne];exact h6
    · rw [if_neg hne];intro k hk;obtain ⟨g1,g2,g3⟩ := h7 k hk;exact ⟨g1,List.mem_append.2 (g2.imp id (fun h => List.mem_singleton.2 h)),List.mem_append.2 (g3.imp id (fun h => List.mem_singleton.2 h))⟩
  · rw [List.mem_singleton] at h;subst h;have hne : w.heap.size ≠ ro := jj;refine ⟨w.heap.size,rfl,?_,?_,?_,hne,?_,?_⟩
    · rw [if_pos rfl,hW2];exact (be.new k3 w).fr (be.set_fr _ _ _) hne
    · have := hB.1.lt; omega
    · have := hF.edges.lt; omega
    · rw [if_pos rfl];intro x hx;cases hx
    · rw [if_pos rfl];intro k hk;cases hk
 have hout := yC (om := om) (r0 := w.heap.size) (c0 := co) hn (fun e he r hr h => by have := hrr e he r hr; omega);have hkm : ∀ m ∈ keysOf lo,m ∈ keysOf (lo ++ [(⟨n,.map (some w.heap.size),co⟩ : Ent Int)]) := fun m hm => by rw [bN]; exact List.mem_append_left _ hm
 have hnm : n ∈ keysOf (lo ++ [(⟨n,.map (some w.heap.size),co⟩ : Ent Int)]) := by rw [bN]; exact List.mem_append_right _ (List.mem_singleton.2 rfl)
 have hsub : ∀ m k,k ∈ outs (lo ++ [(⟨n,.map (some w.heap.size),co⟩ : Ent Int)]) (fun r => if r = w.heap.size then ([],0) else om r) m → k ∈ E ∧ k.1 ∈ keysOf (lo ++ [(⟨n,.map (some w.heap.size),co⟩ : Ent Int)]) ∧ k.2.2 ∈ keysOf (lo ++ [(⟨n,.map (some w.heap.size),co⟩ : Ent Int)]) := fun m k hk => by
  unfold outs at hk;split at hk
  · rename_i r hg;obtain ⟨e,hee,_,hv⟩ := fi hg;obtain ⟨r',h1,_,_,_,_,_,h7⟩ := hFo.ov e hee;rw [hv] at h1;injection h1 with h1;injection h1 with h1;rw [h1] at hk;obtain ⟨g1,g2,g3⟩ := h7 k hk;exact ⟨hle _ g1,g2,g3⟩
  · cases hk
 have hinj : jb (lo ++ [(⟨n,.map (some w.heap.size),co⟩ : Ent Int)]) := fun e1 h1 e2 h2 hv => by
  rcases List.mem_append.1 h1 with h1 | h1 <;> rcases List.mem_append.1 h2 with h2 | h2
  · exact hI e1 h1 e2 h2 hv
  · rw [List.mem_singleton] at h2;subst h2;have := hrr e1 h1 w.heap.size hv;omega
  · rw [List.mem_singleton] at h1;subst h1;have := hrr e2 h2 w.heap.size hv.symm;omega
  · rw [List.mem_singleton] at h1 h2;rw [h1,h2]
 have hW2' : MW w0 W2 := hW.trans hF2 (fun i hi h => by have h : i = ro := h; omega);have HENV := Hd (yA (kind := kind) (p := p) (q := q) (a := a) (E := E) (rb := rb) hMK hrb hsub);have HFO := Hd hFo;have HINJ := Hd hinj;have HKM := Hd hkm;have HNM := Hd hnm;have HOUT := Hd hout;have HF2 := Hd hF2;have HB2 := Hd (hB.fr hF2 (fun h => hF.ne.2.1 h.symm));have HQ := Hd hQ;have HW2 := Hd hW2';have HNEW := Hd (show ∀ e ∈ lo ++ [(⟨n,.map (some w.heap.size),co⟩ : Ent Int)],∀ r,e.v = .map (some r) → e ∈ lo ∨ w.heap.size ≤ r from fun e hee r hr => by
  rcases List.mem_append.1 hee with h | h
  · exact .inl h
  · rw [List.mem_singleton] at h;subst h;injection hr with hr;injection hr with hr;exact .inr jj)
 have HKL := Hd (show ∀ m ∈ keysOf (lo ++ [(⟨n,.map (some w.heap.size),co⟩ : Ent Int)]),m ∈ keysOf lo ∨ m = n from fun m hm => by
  rw [bN] at hm;exact (List.mem_append.1 hm).imp id List.mem_singleton.1)
 obtain ⟨R,hR,hRm⟩ := Fc kind p q a;have hRl := kU _ _ _ _ hR;have HR := Hd hRm;have hRl2 : R.length ≤ 101 := by simp at hRl; omega
 have HBG := Hd (yx B K mb (mvK kind p q a) 0 e0 W2 (hMK.frF hW2') (CB _ _ _ _) (Nat.le_trans (yl _ _ _ _) jj) (by unfold mvK; split <;> simp) R hR);have d0 := hFo.blk.c0;generalize (lo ++ [(⟨n,.map (some w.heap.size),co⟩ : Ent Int)]) = lo' at *;generalize (fun r => if r = w.heap.size then (([] : List (Ent Edge)),0) else om r) = om' at *;clear hF hup hGO hrr hFo hout hkm hnm hsub hinj hW2' hB hQ hI hle hW hf1 hF2 hno hR hRm hRl hMK hW2;have hmk : ∀ w,(Instr.makeMap 429 none).run prog w = .ok (.map (some w.heap.size)) (w.alloc (.map #[] 0)) := fun w => rfl;go_enter func327,ntmps327;go_wp2_with (go_at_call 351; refine HBG.mono ?_; rintro e3 w3 ⟨v3,ys,rfl,hr3,hp3,hf3⟩; obtain ⟨A3,c3,hv3⟩ := ad hr3; subst hv3);have HYS := Hd (show ∀ s ∈ iF kind,s ∈ nI ys from fun s hs => by rw [← HR.out s] at hs; exact (hp3.map _).mem_iff.2 hs);have HYB := Hd (show ∀ s ∈ nI ys,s ∈ iF kind from fun s hs => (HR.out s).1 ((hp3.map _).mem_iff.1 hs));have hyl : ys.length ≤ 101 := by rw [hp3.length_eq]; exact hRl2
 have HR3 := Hd hr3;have HF3 := Hd hf3;rw [cq] at *;have HB3 := Hd (HB2.fr hf3 id);have HFO3 := Hd (HFO.fr (hf3.mono uu));have HW3 := Hd (HW2.trans' hf3);clear hr3 hp3 hf3 HR HBG hu hlk he c4 d0 HFO HB2 HW2;go_wp2_with fail
 go_loopw [25] (fun iv wr => ∃ (j : Nat) (l1 : List (Ent Place)) (c1 : Nat),iv = .int .i64 (j : Int) ∧ j ≤ ys.length ∧ bQ wr rb l1 c1 ∧ Ext (d9 (nxK kind p q a) (outs lo' om')) (keysOf l) (keysOf l1) ∧ (∀ y ∈ keysOf l1,QK kind p q a E lo' y) ∧ (∀ i,i < j → (n,n,(nI ys).getD i 0) ∈ keysOf l1) ∧ Fr (fun j => j = rb) w3 wr) (fun iv _ => ys.length - (intOf iv).toNat)
 case atStart => exact ⟨0,l,c,rfl,Nat.zero_le _,HB3,Ext.refl _,fun y hy => (HQ.out y hy).mono HKM,fun i hi => absurd hi jj,Fr.refl _ _⟩
 case round =>
  obtain ⟨j,l1,c1,rfl,hj,hb,hext,hq,hin,hf⟩ := hrel;have HE := Hd hext;have HQ1 := Hd hq;have HIN := Hd hin;have HF := Hd hf;have HB1 := Hd hb;by_cases hlt : j < ys.length
  · have hlt' : (j : Int) < (ys.length : Int) := jj;have hrr := ap.fr HR3.out hf (fun k hk h => HB3.1.ne_row HR3 (by rw [hk,h]));have hrr2 : wr.ownsRow W2.heap.size 3 1 (.slice A3 ys.length c3) ys.length ((nI ys).map (.int .i64)) := by
     have h := hrr;unfold ap at h;rw [cq] at h;exact h
    obtain ⟨ga,hA,_,_,_⟩ := ar hrr2 jj;subst hA;clear hrr2;have hck : wr.cell? ⟨ga,j,none⟩ = some (.int .i64 ((nI ys).getD j 0)) := eI hrr j (by rw [cq]; exact hlt);have hmem : (nI ys).getD j 0 ∈ nI ys := by
     rw [List.getD_eq_getElem?_getD,List.getElem?_eq_getElem (by rw [cq]; exact hlt)];exact List.getElem_mem _
    have hqn : QK kind p q a E lo' (n,n,(nI ys).getD j 0) := ⟨vv kind p q a E n _ (HYB _ hmem),HNM,HNM⟩;have HKP := Hd (uD HENV (eq (UK (keysOf lo')) (keysOf l1)) wr (n,n,(nI ys).getD j 0) l1 c1 (HFO3.fr hf) (HENV.mfr _ _ HW3.out hf) hb hq hqn (Nat.le_refl _));obtain ⟨t,ht⟩ : ∃ t,t = (nI ys).getD j 0 := ⟨_,rfl⟩;have HTK := Hd ht;rw [← ht] at hck HKP;clear hrr hmem hqn hb hext hq hin hf ht;go_wp2_with (go_at_call 352; refine HKP.mono ?_; rintro e4 w4 ⟨rfl,l4,c4,hb4,hext4,hq4,hin4,hf4⟩);have HB4 := Hd hb4;have HE4 := Hd hext4;have HQ4 := Hd hq4;have HF4 := Hd (HF.trans' hf4);have HIN4 := Hd (show ∀ i,i < j + 1 → (n,n,(nI ys).getD i 0) ∈ keysOf l4 from fun i hi => by
     by_cases he : i = j
     · rw [he,← HTK.out]; exact hin4
     · exact hext4.1 _ (HIN.out i jj))
    clear hb4 hext4 hq4 hin4 hf4;go_roundw
    case rel => exact ⟨j + 1,l4,c4,by go_num,hlt,HB4,HE.trans HE4,HQ4,HIN4,HF4⟩
    case measure => simp only [intOf]; omega
  · obtain rfl : j = ys.length := jj;have HST := Hd (show ∀ s ∈ iF kind,(n,n,s) ∈ keysOf l1 from fun s hs => by
     obtain ⟨i,hi,he⟩ := List.getElem_of_mem (HYS.out s hs);have h := hin i (by rw [cq] at hi; exact hi)
     rwa [List.getD_eq_getElem?_getD,List.getElem?_eq_getElem hi,Option.getD_some,he] at h)
    clear hb hext hq hin hf;go_wp2_with fail
    first | go_end0 | refine bodyPost_ret (results_none rfl _ _ _) rfl ?_
    exact ⟨rfl,lo',co + 1,om',l1,c1,HFO3.fr HF,HINJ,HB1,HNM,HKM,HKL,HOUT,HE,HQ1,fun _ => HST,HNEW,((HF2.mono (fun _ _ h => .inr h)).trans HF3.out uu).trans HF (fun _ _ h => .inl h)⟩
theorem yE (hMK : b6 w0 B K mb (mvK kind p q a) 0 e0) (hrb : w0.heap.size ≤ rb) (hro : w0.heap.size ≤ ro)
    (n : Int) (w : World) (hF : FoN w fb mb re ro rb le ce lo co om n) (hW : MW w0 w) (hB : bQ w rb l c) (hQ : ∀ y ∈ keysOf l,QK kind p q a E lo y) (hI : jb lo) (hle : ∀ k ∈ keysOf le,k ∈ E) :
    Calls prog 327 #[.pointer (some ⟨fb,0,none⟩),.int .i64 n] w (rx kind p q a E fb mb re ro rb le ce lo om l n w) := by
 by_cases hn : n ∈ keysOf lo
 · refine (yB n w (hF.toFo hn) hn).mono ?_;rintro e w' ⟨rfl,hf⟩;exact ⟨rfl,lo,co,om,l,c,(hF.toFo hn).fr (hf.mono uu),hI,hB.fr hf id,hn,fun _ h => h,fun _ h => .inl h,fun _ => rfl,Ext.refl _,hQ,fun h => absurd hn h,fun _ h _ _ => .inl h,hf.mono uu⟩
 · exact yD hMK hrb hro n w hF hW hB hQ hI hle hn
def kC (om : Nat → List (Ent Edge) × Nat) (rn : Nat) (k : Edge) (r : Nat) : List (Ent Edge) × Nat := if r = rn then (ep (om rn).1 k (.bool true) (om rn).2,if b5 (om rn).1 k then (om rn).2 else (om rn).2 + 1) else om r
theorem kD (l : List (Ent Edge)) (x : Edge) (v : Value) (c : Nat) (k : Edge) : k ∈ keysOf (ep l x v c) ↔ k ∈ keysOf l ∨ k = x := by
 unfold keysOf;rw [j6];by_cases h : b5 l x = true
 · rw [if_pos h];constructor
   · exact .inl
   · rintro (h2 | rfl)
     · exact h2
     · exact (cH _ l).1 h
 · rw [if_neg h];simp
theorem yF (hg : bc lo n = some (.map (some rn))) (hi : jb lo) (m : Int) (k' : Edge) :
    k' ∈ outs lo (kC om rn k) m ↔ k' ∈ outs lo om m ∨ (k' = k ∧ m = n) := by
 obtain ⟨e1,h1,hk1,hv1⟩ := fi hg;unfold outs;cases hm : bc lo m with
 | none =>
  simp only [List.not_mem_nil,false_or,false_iff,not_and];rintro rfl rfl;rw [hm] at hg;cases hg
 | some v =>
  obtain ⟨e2,h2,hk2,hv2⟩ := fi hm;cases v with
  | map r =>
   cases r with
   | none =>
    simp only [List.not_mem_nil,false_or,false_iff,not_and];rintro rfl rfl;rw [hm] at hg;cases hg
   | some r =>
    simp only;unfold kC;by_cases hr : r = rn
    · subst hr;rw [if_pos rfl];have hmn : m = n := by
       have := hi e2 h2 e1 h1 (by rw [hv1,hv2]);rw [hk1,hk2] at this;exact this
      simp only;rw [kD];simp [hmn]
    · rw [if_neg hr];constructor
      · exact .inl
      · rintro (h | ⟨_,rfl⟩)
        · exact h
        · rw [hm] at hg;injection hg with hg;injection hg with hg;injection hg with hg;exact absurd hg hr
  | _ =>
   simp only [List.not_mem_nil,false_or,false_iff,not_and];rintro rfl rfl;rw [hm] at hg;cases hg
theorem D5 {W : World} {n1 : Int} (h : Fo w fb mb re ro rb le ce lo co om) (hg : bc lo n = some (.map (some rn))) (hf : Fr (fun _ => False) w W) (hk : k ∈ keysOf le) (h1 : k.1 ∈ keysOf lo ∨ k.1 = n1) (h2 : k.2.2 ∈ keysOf lo ∨ k.2.2 = n1) (o : Obj)
    (hG : be k3 (fS W rn o) rn (ep (om rn).1 k (.bool true) (om rn).2) (if b5 (om rn).1 k then (om rn).2 else (om rn).2 + 1)) : FoN (fS W rn o) fb mb re ro rb le ce lo co (kC om rn k) n1 ∧ rn ≠ rb ∧ Fr (fun j => j = rn) w (fS W rn o) := by
 obtain ⟨e1,he1,hk1,hv1⟩ := fi hg;obtain ⟨r,g1,g2,g3,g4,g5,g6,g7⟩ := h.ov e1 he1;rw [hv1] at g1;injection g1 with g1;injection g1 with g1;subst g1;have hF : Fr (fun j => j = rn) w (fS W rn o) := (hf.mono uu).trans' (be.set_fr W rn o);refine ⟨⟨h.blk.fr hF (fun e => g2.ne_blk h.blk e.symm),h.edges.fr hF (fun e => g4 e.symm),h.ev,h.out.fr hF (fun e => g5 e.symm),fun e he => ?_,h.ne⟩,g3,hF⟩;obtain ⟨r,f1,f2,f3,f4,f5,f6,f7⟩ := h.ov e he;refine ⟨r,f1,?_,f3,f4,f5,?_,?_⟩
 · unfold kC;by_cases hr : r = rn
   · subst hr;rw [if_pos rfl];exact hG
   · rw [if_neg hr];exact f2.fr hF hr
 · unfold kC;by_cases hr : r = rn
   · subst hr;rw [if_pos rfl];intro x hx;unfold ep at hx;simp only at hx;split at hx
     · obtain ⟨y,hy,rfl⟩ := List.mem_map.1 hx;split
       · rfl
       · exact f6 y hy
     · rcases List.mem_append.1 hx with hx | hx
       · exact f6 x hx
       · rw [List.mem_singleton] at hx;rw [hx]
   · rw [if_neg hr];exact f6
 · unfold kC;by_cases hr : r = rn
   · subst hr;rw [if_pos rfl];intro k' hk';rw [kD] at hk';rcases hk' with hk' | rfl
     · obtain ⟨a1,a2,a3⟩ := f7 k' hk';exact ⟨a1,.inl a2,.inl a3⟩
     · exact ⟨hk,h1,h2⟩
   · rw [if_neg hr];intro k' hk';obtain ⟨a1,a2,a3⟩ := f7 k' hk';exact ⟨a1,.inl a2,.inl a3⟩
structure FI (kind : Nat) (p q a : Int) (E : List Edge) (w0 : World) (fb mb re ro rb : Nat) (w : World) (le : List (Ent Edge)) (ce : Nat) (lo : List (Ent Int)) (co : Nat) (om : Nat → List (Ent Edge) × Nat) (l : List (Ent Place)) (c : Nat) : Prop where
 fo : Fo w fb mb re ro rb le ce lo co om
 mw : MW w0 w
 inj : jb lo
 best : bQ w rb l c
 full : ∀ k ∈ keysOf le,k ∈ outs lo om k.1 ∧ k ∈ outs lo om k.2.2
 sub : ∀ k ∈ keysOf le,k ∈ E
 start : ∀ n ∈ keysOf lo,∀ s ∈ iF kind,(n,n,s) ∈ keysOf l
 closed : ∀ x ∈ keysOf l,∀ z,d9 (nxK kind p q a) (outs lo om) x z → z ∈ keysOf l
 sound : ∀ y ∈ keysOf l,QK kind p q a E lo y
 low : ∀ e ∈ lo,∀ r,e.v = .map (some r) → w0.heap.size ≤ r
theorem uE (h : Fo w fb mb re ro rb le ce lo co om) (m : Int) (k : Edge) (hk : k ∈ outs lo om m) : k ∈ keysOf le ∧ k.1 ∈ keysOf lo ∧ k.2.2 ∈ keysOf lo := by
 unfold outs at hk;split at hk
 · rename_i r hg;obtain ⟨e,hee,_,hv⟩ := fi hg;obtain ⟨r',h1,_,_,_,_,_,h7⟩ := h.ov e hee;rw [hv] at h1;injection h1 with h1;injection h1 with h1;rw [h1] at hk;exact h7 k hk
 · cases hk
theorem FI.closed_all (h : FI kind p q a E w0 fb mb re ro rb w le ce lo co om l c) (hE : ∀ k ∈ E,k ∈ keysOf le) : Closed kind p q a E (keysOf l) where
 start := fun k hk s hs => by
  have h1 := h.full k (hE k hk);have h2 := uE h.fo _ _ h1.1;exact ⟨h.start _ h2.2.1 s hs,h.start _ h2.2.2 s hs⟩
 step := fun x hx y ⟨k,hk,hs⟩ => by
  refine h.closed x hx y ⟨k,?_,hs⟩;have h1 := h.full k (hE k hk);rcases hs.2 with ⟨h2,_⟩ | ⟨h2,_⟩
  · rw [← h2]; exact h1.1
  · rw [← h2]; exact h1.2
 sound := fun x hx => (h.sound x hx).1
theorem ry (k : Edge) (w : World) (h : 0 ≤ k.1 ∧ 0 ≤ k.2.1 ∧ 0 ≤ k.2.2) : Calls prog 284 #[.agg #[.int .i64 k.1,.int .i64 k.2.1,.int .i64 k.2.2],.int .i64 aA] w fun e w' => e = .returned (.bool true) ∧ Fr (fun _ => False) w w' := by
 obtain ⟨h1,h2,h3⟩ := h;have hf := Fr.a1 w (.cells #[.int .i64 k.1,.int .i64 k.2.1,.int .i64 k.2.2] 71);have h4 : (-2305843009213693952 : Int) ≤ aA := de;have h5 : aA ≤ 4611686018427387904 := de;go_enter func284,ntmps284;go_wp2_with fail;go_ret;exact ⟨rfl,hf⟩
theorem BN (k : Edge) (w : World) : Calls prog 326 #[.agg #[.int .i64 k.1,.int .i64 k.2.1,.int .i64 k.2.2]] w fun e w' => e = .returned (.agg #[.int .i64 k.1,.int .i64 k.2.2]) ∧ Fr (fun _ => False) w w' := by
 go_enter func326,ntmps326;go_wp2_with fail;have h2 := Blk.new (w.alloc (.cells #[.int .i64 k.1,.int .i64 k.2.1,.int .i64 k.2.2] 71)) 426 #[.int .i64 k.1,.int .i64 k.2.2];rw [show (w.alloc (.cells #[.int .i64 k.1,.int .i64 k.2.1,.int .i64 k.2.2] 71)).heap.size = w.heap.size + 1 by simp] at h2;exact bodyPost_ret (v := .agg #[.int .i64 k.1,.int .i64 k.2.2]) (results_cell_row rfl _ _ (w.heap.size + 1) 426 _ (0,0) _ rfl h2 underlying426 rfl kr) rfl ⟨rfl,((Fr.refl _ w).alloc _).alloc _⟩
theorem vW (w : World) (t : TypeId) {r c : Nat} {es : Array MapEntry} (hb : w.heap[r]? = some (.map es c)) :
    (Extern.MapsClone.clone #[.iface t (.map (some r))]).run P w = .ok (.iface t (.map (some w.heap.size))) (w.alloc (.map es c)) := by
 have e : Extern.MapsClone.clone #[.iface t (.map (some r))] = (getObj r >>= fun o => match o with
  | .map entries clock => (newObj (.map entries clock)) >>= fun k => pure (Value.iface t (.map (some k)))
  | _ => stuck "maps.clone: a map expected") := rfl
 rw [e];simp [getObj,newObj,Sem.run,hb]
theorem yG (w : World) (h : be k3 w rb l c) :
    Calls prog 328 #[.map (some rb)] w fun e w' => e = .returned (.map (some w.heap.size)) ∧ be k3 w' w.heap.size l c ∧ Fr (fun _ => False) w w' := by
 have hr := vW (P := prog) w 423 h.1;have hg := heap_alloc_new w (.map (l.map (Ent.me k3)).toArray c);have HG := Hd (show be k3 (w.alloc (.map (l.map (Ent.me k3)).toArray c)) w.heap.size l c from ⟨hg,h.2⟩);have HF := Hd (show Fr (fun _ => False) w (w.alloc (.map (l.map (Ent.me k3)).toArray c)) from (Fr.refl _ w).alloc _);generalize w.alloc (.map (l.map (Ent.me k3)).toArray c) = w1 at *;clear hg h;have he : ∀ w,(binOp BinOp.eql 423 (Value.map (some rb)) (Value.map none)).run prog w = .ok (.bool false) w := fun w => by kernel_rfl
 have ha : ∀ (r : Nat) w,(Instr.typeAssert (Value.iface 423 (.map (some r))) 20 423 false).run prog w = .ok (.map (some r)) w := fun r w => by kernel_rfl
 go_enter func328,ntmps328;go_wp2;rw [run_callFunc_extern func353 kr kr kr (e := Extern.MapsClone.clone) kr,hr];simp only [Result.andThen];rw [Oper.upon_value];go_wp2;go_ret;exact ⟨rfl,HG,HF⟩
end Go.Proofs.YtfaapkpebnagmaaGreatDoor
