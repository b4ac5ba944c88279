/- Texts of the proof, one behind the other: Ef, Ah, Bg. -/
import Derived.Test.YtfaapkpebnagmaaGreatDoorXf
import Derived.Test.YtfaapkpebnagmaaGreatDoorXg
import Derived.Lib.ItoaLen
import Derived.Laws.Cover4
namespace Go.Proofs.YtfaapkpebnagmaaGreatDoor
open _root_.Go.Proofs.Tryz
open Go.RowKit Go
set_option linter.unusedVariables false
set_option maxRecDepth 100000
set_option maxHeartbeats 400000000
variable {rs ts cs : List Int} {w w' : World} {p b c n g : Nat} {A : Option Addr} {S : Nat → Prop}
def Tb (w : World) : Prop := Lib.TabIs prog w "internal/strconv.uint64pow10" .u64 Lib.pow10Tab
theorem oJ {n : String} {cs : Array Value} (hf : Fr S w w') (hs : ∀ g,prog.globalNamed n = some g → ¬ S g) (h : w.var? prog n = some cs) : w'.var? prog n = some cs := by
 unfold World.var? at h ⊢;cases hg : prog.globalNamed n with
 | none =>
  rw [hg] at h;cases h
 | some g =>
  rw [hg] at h;simp only [Option.bind_some] at h ⊢;have hl : g < w.heap.size := by
   rcases Nat.lt_or_ge g w.heap.size with h1 | h1
   · exact h1
   · rw [Array.getElem?_eq_none h1] at h;cases h
  rw [hf.block g hl (hs g hg)];exact h
theorem Tb.frF (h : Tb w) (hf : Fr (fun _ => False) w w') : Tb w' := oJ hf ii h
theorem Tb.frN (h : Tb w) (hn : 4 ≤ n) (hf : Fr (fun j => n ≤ j) w w') : Tb w' := oJ hf (fun g hg h => by
 have e : prog.globalNamed "internal/strconv.uint64pow10" = some 3 := kr;rw [e] at hg;injection hg with hg;omega) h
theorem Ac (w : World) (k : Nat) (os : Array Obj) : Fr (fun _ => False) w (Go.Sort.grow (w.drewN k) os) :=
 ⟨rfl,rfl,rfl,by show w.heap.size ≤ (w.heap ++ os).size; rw [Array.size_append]; omega,fun j hj _ => by show (w.heap ++ os)[j]? = w.heap[j]?; rw [Array.getElem?_append_left hj]⟩
theorem wS (n : Int) (h1 : -9223372036854775808 ≤ n) (h2 : n ≤ 9223372036854775807) (w : World) (hg : Tb w) : Calls prog 89 #[.int .i64 n] w fun e w' => e = .returned (.string ⟨(Lib.itoa n).toArray⟩) ∧ Fr (fun _ => False) w w' := by
 refine (Tryz.strconv_Itoa n h1 h2 w hg).mono ?_;rintro e w1 ⟨rfl,k,os,rfl⟩;exact ⟨rfl,Ac w k os⟩
def fC (xs : List Int) : Nat → ByteArray
 | 0 => ⟨#[]⟩
 | k + 1 => fC xs k ++ (⟨(Lib.itoa (xs.getD k 0)).toArray⟩ ++ ⟨#[32]⟩)
def aS (xs : List Int) : ByteArray := fC xs xs.length
theorem kp (xs : List Int) (h : ∀ k,k < xs.length → -1 ≤ xs.getD k 0 ∧ xs.getD k 0 ≤ 1000000) : ∀ k,k ≤ xs.length → (fC xs k).size ≤ 22 * k
 | 0,_ => Nat.le_refl _
 | k + 1,hk => by
  have ih := kp xs h k jj;have h1 := Lib.itoa_length_le (xs.getD k 0) (by have := h k jj; omega) (by have := h k jj; omega);show (fC xs k ++ (⟨(Lib.itoa (xs.getD k 0)).toArray⟩ ++ ⟨#[32]⟩)).size ≤ _;rw [ByteArray.size_append,ByteArray.size_append];have h2 : (⟨(Lib.itoa (xs.getD k 0)).toArray⟩ : ByteArray).size = (Lib.itoa (xs.getD k 0)).length := by simp [ByteArray.size]
  have h3 : (⟨#[32]⟩ : ByteArray).size = 1 := rfl;omega
theorem lr (A : Option Addr) (n c B : Nat) (xs : List Int) (w : World) (hl : xs.length = n) (hn : n ≤ 4096) (hlo : ∀ k,k < n → -1 ≤ xs.getD k 0 ∧ xs.getD k 0 ≤ 1000000) (hg : Tb w) (hr : ap w B (.slice A n c) xs) :
    Calls prog 38 #[.slice A n c] w fun e w' => e = .returned (.string (aS xs)) ∧ Fr (fun _ => False) w w' := by
 have HI := Hd (fun x w h1 h2 hg => wS x h1 h2 w hg);have HG := Hd hg;have HR := Hd hr;have HLO := Hd hlo;have HL := Hd hl;clear hg hr hlo hl;go_enter func38,ntmps38;go_wp2_with fail
 go_loopw [3,8] (fun ov iv wr => ∃ k : Nat,ov = .string (fC xs k) ∧ iv = .int .i64 (k : Int) ∧ k ≤ n ∧ Fr (fun _ => False) w wr) (fun _ iv _ => n - (intOf iv).toNat)
 case atStart => exact ⟨0,rfl,rfl,Nat.zero_le _,Fr.refl _ _⟩
 case round =>
  obtain ⟨k,rfl,rfl,hk,hf⟩ := hrel;have HF := Hd hf;by_cases hlt : k < n
  · have hlt' : (k : Int) < (n : Int) := jj;have hrr := HR.fr hf ii;obtain ⟨ga,rfl,_,_,_⟩ := ar (by have h := hrr; unfold ap at h; rw [HL.out] at h; exact h) (show 0 < n by omega);have c0 : wr.cell? ⟨ga,k,none⟩ = some (.int .i64 (xs.getD k 0)) := eI hrr k (by have := HL.out; omega);have hb := HLO.out k hlt;have hs1 := kp xs (by rw [HL.out]; exact HLO) k (by have := HL.out; omega);have hs2 : (⟨(Lib.itoa (xs.getD k 0)).toArray⟩ : ByteArray).size ≤ 21 := by
     have h1 := Lib.itoa_length_le (xs.getD k 0) jj jj;simpa [ByteArray.size] using h1
    have HII := Hd (fun w hg => HI (xs.getD k 0) w jj jj hg);have HS := Hd (show fC xs (k + 1) = fC xs k ++ (⟨(Lib.itoa (xs.getD k 0)).toArray⟩ ++ ⟨#[32]⟩) from rfl);generalize fC xs k = nk at *;generalize (⟨(Lib.itoa (xs.getD k 0)).toArray⟩ : ByteArray) = it at *;generalize xs.getD k 0 = x at *;have HGG := Hd (HG.frF hf);have q1 : ¬ 9223372036854775807 < it.size + 1 := jj;have q2 : ¬ 9223372036854775807 < nk.size + (it.size + 1) := jj;clear hrr hf hb hs1 hs2;go_wp2_with fail;refine (HII _ HGG).mono ?_;rintro e w2 ⟨rfl,hf2⟩;have HF2 := Hd (HF.trans' hf2);clear hf2;go_wp2_with fail;go_roundw
    case rel => exact ⟨k + 1,by rw [← HS.out],by go_num,by omega,HF2⟩
    case measure => simp only [intOf]; omega
  · have hlt' : ¬ (k : Int) < (n : Int) := jj;obtain rfl : k = n := jj;have HE := Hd (show fC xs k = aS xs by unfold aS; rw [HL.out]);clear hf;go_wp2_with fail;go_ret;exact ⟨congrArg (fun s => Ending.returned (Value.string s)) HE,HF⟩
theorem kJ (F : Nat) (C : Array Value) (tb m vc B : Nat) (V : Option Addr) (vr : Value) (vals : List Value) (rows : List (List Int)) (ss : List ByteArray) (xs : List Int) (w : World) (hl : ss.length = m) (hx : xs.length = m) (hxm : ∀ k,k < m → -1 ≤ xs.getD k 0)
    (hm9 : m ≤ 4096) (hB : B ≤ w.heap.size) (hrows : rows.length ≤ 4096)
    (hen : ∀ args w,(callFunc F args).run prog w = .ok (.enter F args) w) (hof : ∀ w1 k,k < m → Fr (fun j => w.heap.size ≤ j) w w1 → Calls prog F (#[.string (ss.getD k ByteArray.empty)] ++ C) w1 fun e w' => e = .returned (.int .i64 (xs.getD k 0)) ∧ Fr (fun _ => False) w1 w')
    (ht : Blk w tb 47 #[.slice V m vc,vr]) (hv : w.ownsRow B 9 1 (.slice V m vc) m (ss.map .string)) (hr : ak w B vr vals rows) :
    Calls prog 85 #[.pointer (some ⟨tb,0,none⟩),.func (.func F) #[] C] w (kI w B tb m vc V vr vals rows xs) := by
 obtain ⟨A0,c0,hvt⟩ := ad hr.own;subst hvt;obtain ⟨i3,hi3,hz30,hz31,hz32⟩ := info_parts info3;obtain ⟨i48,hi48,hz480,hz481,hz482⟩ := info_parts jY;have t0 := ht.cell 0;have t1 := ht.cell 1;simp only [List.getElem?_toArray,List.getElem?_cons_zero,List.getElem?_cons_succ] at t0 t1;have HOF := Hd hof;have HT := Hd ht;have HV := Hd hv;have HR := Hd hr;have HXM := Hd hxm;clear ht hv hr hof hxm;go_enter func85,ntmps85;go_wp2_with (refine wpList_make_own _ rfl _ _ 99 rfl w.heap.size 3 i3 _ 1 underlying99 hi3 hz30 hz31 .i64 .i64 m m (by rfl) (by rfl) rfl (by rw [hz32]; omega) (by unfold maxLen; omega) (Nat.le_refl _) ?_; intro w1 hown1 hgr1; have HF1 := Hd (show Fr (fun _ => False) w w1 from (Fr.of_grown hgr1).mono (fun _ _ h => by cases h)); have t01 := aG HF1.out t0; have t11 := aG HF1.out t1);have HOWN1 := Hd hown1;clear hown1 hgr1
 go_loopw [4,18] (fun ov iv wr => ∃ k : Nat,ov = .slice (some ⟨w.heap.size,0,none⟩) k m ∧ iv = .int .i64 (k : Int) ∧ k ≤ m ∧ wr.ownsRow w.heap.size 3 1 (.slice (some ⟨w.heap.size,0,none⟩) k m) k ((xs.take k).map (.int .i64)) ∧ Fr (fun j => w.heap.size ≤ j) w wr) (fun _ iv _ => m - (intOf iv).toNat)
 case atStart => exact ⟨0,rfl,rfl,by omega,by simpa using HOWN1.out,HF1.out.mono uu⟩
 case round =>
  obtain ⟨k,rfl,rfl,hk,hrow,hf⟩ := hrel;have HF := Hd hf;have HROW := Hd hrow;have hsz := hf.size;clear t01 t11;by_cases hlt : k < m
  · have hlt' : (k : Int) < (m : Int) := jj;obtain ⟨vg,rfl,_,_,_⟩ := ar HV.out jj;have cv : wr.cell? ⟨vg,k,none⟩ = some (.string (ss.getD k ByteArray.empty)) := bL (aa HV.out hf (fun j hj h => absurd (HV.lt j hj).2 jj)) k hlt;have HC := Hd (HOF.out wr k hlt hf);have hxk := HXM.out k hlt;have HX := Hd (show xs.take (k + 1) = xs.take k ++ [xs.getD k 0] by rw [List.take_add_one,List.getD_eq_getElem?_getD,List.getElem?_eq_getElem jj]; rfl);generalize ss.getD k ByteArray.empty = x at *;generalize xs.getD k 0 = y at *;clear hf hrow;go_wp2_with fail;refine HC.mono ?_;rintro e w2 ⟨rfl,hf2⟩;have HF2 := Hd (HF.trans hf2 uu);have HROW2 := Hd (aa HROW.out hf2 ii);clear hf2;go_wp2_with (at_builtin; refine wpList_append_fits _ rfl _ _ 99 rfl w.heap.size 3 i3 1 underlying99 hi3 hz31 w.heap.size k m ((xs.take k).map (.int .i64)) (by rfl) (HROW2.alloc _) ⟨w2.heap.size,0,none⟩ 1 1 [.int .i64 (max y (-1))] (by rfl) rfl (World.news_of_block (heap_alloc_new w2 _)) (by intro u hu; rw [List.mem_singleton] at hu; rw [hu]; rfl) jj ?_; intro w3 hown3 hgr3);have HF3 := Hd ((HF2.alloc (.cells #[.int .i64 (max y (-1))] 3)).grown hgr3 (fun j hj e => by injection e with e; omega));have HR3 := Hd hown3;clear hown3 hgr3;go_wp2_with fail;go_roundw
    case rel => exact ⟨k + 1,rfl,by go_num,by omega,by rw [HX.out,List.map_append,List.map_singleton,← Int.max_eq_left hxk]; exact HR3,HF3⟩
    case measure => simp [intOf]; omega
  · have hlt' : ¬ (k : Int) < (m : Int) := jj;have hk3 : m = k := jj;subst hk3;have hb3 := HT.fr hf (fun h => absurd HT.lt jj);have hr3 := HR.fr hf (fun j hj h => absurd (HR.own.lt j hj).2 jj) (fun i hi j hj h => absurd ((HR.each i hi).lt j hj).2 jj);have hrow3 : ap wr w.heap.size (.slice (some ⟨w.heap.size,0,none⟩) m m) xs := by
     unfold ap;rw [hx];rw [List.take_of_length_le jj] at hrow;exact hrow
    have HR3 := Hd hr3;have HB3 := Hd hb3;have HROW3 := Hd hrow3;have c1f := hb3.c1;clear hf hrow hr3 hrow3 hb3;go_wp2_with (at_builtin; refine wpList_append_own_at _ rfl _ _ 45 rfl B 99 i48 _ 1 24 underlying45 hi48 hz480 hz481 hz482 rfl de _ rows.length vals (by rfl) (HR3.own.alloc _) ⟨wr.heap.size,0,none⟩ 1 1 [.slice (some ⟨w.heap.size,0,none⟩) m m] (by rfl) rfl (World.news_of_block (heap_alloc_new wr _)) (by intro u hu; rw [List.mem_singleton] at hu; rw [hu]; rfl) (by unfold maxLen; omega) jj (by simp; omega) ?_; intro v6 w6 hown6 hgr6 _ hat6; obtain ⟨A6,c6,hv6⟩ := ad hown6; subst hv6; have hb6 := (HB3.alloc (.cells #[.slice (some ⟨w.heap.size,0,none⟩) m m] 99)).fr (Fr.of_grown hgr6) (fun h => ac HR3.own HB3.out de h); have f16 : w6.frozen? ⟨tb,1,none⟩ = false := hb6.frozen 1; have c16 := hb6.c1; have hbl6 := hb6.lt; have HB6 := Hd hb6; clear hb6);have hb7 := HB6.set_ 1 (.slice A6 (rows.length + 1) c6);have hr6 := HR3.push HROW3.out hB _ hown6 hgr6;have HR7 := Hd (hr6.frB HB6.out de de ((Fr.refl (fun j => j = tb) w6).setCell ⟨tb,1,none⟩ (fun _ => rfl) (.slice A6 (rows.length + 1) c6)));have HB7 := Hd (show Blk (w6.setCell ⟨tb,1,none⟩ (.slice A6 (rows.length + 1) c6)) tb 47 #[.slice V m vc,.slice A6 (rows.length + 1) c6] from hb7);have F6 : Fr (fun j => j = tb ∨ (Value.slice A0 rows.length c0).ownBlock = some j) w w6 := by
     have h1 : Fr (fun j => w.heap.size ≤ j ∨ (Value.slice A0 rows.length c0).ownBlock = some j) w w6 := ((HF.mono (fun _ _ h => .inl h)).alloc (.cells #[.slice (some ⟨w.heap.size,0,none⟩) m m] 99)).trans (Fr.of_grown hgr6) (fun i hi e => .inr e);exact h1.mono (fun j hj h => h.elim (fun h => absurd hj jj) .inr)
    have HF7 := Hd (F6.setCell ⟨tb,1,none⟩ (fun _ => .inl rfl) (.slice A6 (rows.length + 1) c6));have HAT := Hd hat6;have HG := Hd (uW (nv := .slice (some ⟨w.heap.size,0,none⟩) m m) HR3.len);clear hown6 hgr6 hat6 hr6 hb7 F6;go_wp2_with fail
    go_end0;refine ⟨rfl,_,_,HB7,HR7,HF7,fun k hk => ?_,HG.1,fun k hk => ?_⟩
    · rcases HAT.out with h | h
      · left; rw [← h]; exact hk
      · right;rw [h] at hk;injection hk with hk;simp at hk;omega
    · rw [HG.out.2] at hk;injection hk with hk;exact Nat.le_of_eq hk
structure Sc (w : World) (b : Nat) (A : Option Addr) (c : Nat) (rs : List Int) (p : Nat) : Prop where
 blk : Blk w b 204 #[.slice A rs.length c,.int .i64 (p : Int)]
 row : w.ownsRow 0 21 1 (.slice A rs.length c) rs.length (rs.map (.int .i32))
 le : p ≤ rs.length
 small : rs.length ≤ 4096
 pos : 0 < rs.length
 valid : ∀ r,r ∈ rs → Lib.validRune r = true ∧ 0 ≤ r
theorem Sc.fr (h : Sc w b A c rs p) (hf : Fr S w w') (h1 : ¬ S b) (h2 : ∀ j,(Value.slice A rs.length c).ownBlock = some j → ¬ S j) : Sc w' b A c rs p :=
 ⟨h.blk.fr hf h1,aa h.row hf h2,h.le,h.small,h.pos,h.valid⟩
theorem Sc.frF (h : Sc w b A c rs p) (hf : Fr (fun _ => False) w w') : Sc w' b A c rs p := h.fr hf id ii
theorem Sc.go (h : Sc w b A c rs p) (q : Nat) (hq : q ≤ rs.length) : Sc (w.setCell ⟨b,1,none⟩ (.int .i64 (q : Int))) b A c rs q ∧ Fr (fun j => j = b) w (w.setCell ⟨b,1,none⟩ (.int .i64 (q : Int))) := by
 have FS : Fr (fun j => j = b) w (w.setCell ⟨b,1,none⟩ (.int .i64 (q : Int))) := (Fr.refl (fun j => j = b) w).setCell ⟨b,1,none⟩ (fun _ => rfl) _;exact ⟨⟨h.blk.set_ 1 (.int .i64 (q : Int)),aa h.row FS (fun j hj e => ac h.row h.blk de (by rw [hj,e])),hq,h.small,h.pos,h.valid⟩,FS⟩
theorem ng {B : Nat} (h : w.ownsRow B 21 1 (.slice (some ⟨g,0,none⟩) n c) n (rs.map (.int .i32))) (j : Nat) (hj : j < n) : w.cell? ⟨g,j,none⟩ = some (.int .i32 (rs.getD j 0)) := by
 have hl : rs.length = n := by have := h.1; simpa using this
 rw [World.ownsRow.cellAt h j jj,List.getElem?_map,List.getElem?_eq_getElem jj,List.getD_eq_getElem?_getD,List.getElem?_eq_getElem jj];rfl
def ah (rs : List Int) (p : Nat) : Int := if p < rs.length then rs.getD p 0 else -1
def lu (rs : List Int) (p : Nat) : Nat := if p < rs.length then p + 1 else p
theorem fN (b c p : Nat) (A : Option Addr) (rs : List Int) (w : World) (h : Sc w b A c rs p) : Calls prog 44 #[.pointer (some ⟨b,0,none⟩)] w fun e w' => e = .returned (.int .i64 (p : Int)) ∧ w = w' := by
 have c1 := h.blk.c1;clear h;go_enter func44,ntmps44;go_wp2_with fail;go_ret;exact ⟨rfl,rfl⟩
theorem Ad (p n : Nat) : (((p : Int) == (n : Int))) = decide (p = n) := by
 by_cases h : p = n
 · subst h; simp
 · rw [decide_eq_false h];simp;omega
theorem oL (b c p : Nat) (A : Option Addr) (rs : List Int) (w : World) (h : Sc w b A c rs p) : Calls prog 42 #[.pointer (some ⟨b,0,none⟩)] w fun e w' => e = .returned (.bool (decide (p = rs.length))) ∧ Fr (fun _ => False) w w' := by
 have c0 := h.blk.c0;have c1 := h.blk.c1;generalize rs.length = n at *;clear h;go_enter func42,ntmps42;go_wp2_with fail
 go_big_quiet (fail);go_wp2_with fail;go_ret;exact ⟨by rw [Ad]; rfl,(Fr.refl _ _).drewN _⟩
theorem gn (b c p : Nat) (A : Option Addr) (rs : List Int) (w : World) (h : Sc w b A c rs p) : Calls prog 95 #[.pointer (some ⟨b,0,none⟩)] w fun e w' => e = .returned (.int .i32 (ah rs p)) ∧ Fr (fun _ => False) w w' := by
 have HE := Hd (oL b c p A rs w h);have HS := Hd h;unfold ah;by_cases hp : p < rs.length
 · rw [FX] at HE;rw [if_pos hp];obtain ⟨r,hrr⟩ : ∃ r,r = rs.getD p 0 := ⟨_,rfl⟩;rw [← hrr];clear h;go_enter func95,ntmps95;go_wp2_with fail;refine HE.mono ?_;rintro e w1 ⟨rfl,hf1⟩;have hs := HS.frF hf1;have hr := hs.row;obtain ⟨g,rfl,_,_,_⟩ := ar hr jj;have cc := ng hr p hp;rw [← hrr] at cc;have c0 := hs.blk.c0;have c1 := hs.blk.c1;have hlt : (p : Int) < (rs.length : Int) := jj;have HF := Hd hf1;clear hs hr hf1 HE HS hrr;go_wp2_with fail
   go_big_quiet (fail);go_wp2_with fail;go_ret;exact ⟨rfl,HF.drewN _⟩
 · rw [decide_eq_true (by have := h.le; omega)] at HE;rw [if_neg hp];clear h;go_enter func95,ntmps95;go_wp2_with fail;refine HE.mono ?_;rintro e w1 ⟨rfl,hf1⟩;go_wp2_with fail;go_ret;exact ⟨rfl,hf1⟩
def aV (w : World) (b : Nat) (A : Option Addr) (c : Nat) (rs : List Int) (q : Nat) (v : Value) (e : Ending) (w' : World) : Prop := e = .returned v ∧ Sc w' b A c rs q ∧ Fr (fun j => j = b) w w'
theorem Ae (h : Sc w b A c rs p) (hp : p < rs.length) : ¬ rs.getD p 0 = -1 := by
 have := (h.valid (rs.getD p 0) (by rw [List.getD_eq_getElem?_getD,List.getElem?_eq_getElem hp]; exact List.getElem_mem hp)).2;omega
theorem oM (b c p : Nat) (A : Option Addr) (rs : List Int) (w : World) (h : Sc w b A c rs p) : Calls prog 149 #[.pointer (some ⟨b,0,none⟩)] w (aV w b A c rs (lu rs p) (.int .i32 (ah rs p))) := by
 have HE := Hd (gn b c p A rs w h);have HS := Hd h;unfold lu;by_cases hp : p < rs.length
 · have hne := Ae h hp;unfold ah at HE ⊢;rw [if_pos hp] at HE ⊢;rw [if_pos hp];have hsm := h.small;clear h;generalize rs.getD p 0 = r at *;go_enter func149,ntmps149;go_wp2_with fail;refine HE.mono ?_;rintro e w1 ⟨rfl,hf1⟩;have hs := HS.frF hf1;have c1 := hs.blk.c1;have f1 := hs.blk.frozen 1;have HG := Hd (hs.go (p + 1) jj);have HF := Hd hf1;clear hs hf1 HE HS;go_wp2_with fail;go_ret;exact ⟨rfl,HG.1,(HF.mono uu).trans' HG.2⟩
 · unfold ah at HE ⊢;rw [if_neg hp] at HE ⊢;rw [if_neg hp];clear h;go_enter func149,ntmps149;go_wp2_with fail;refine HE.mono ?_;rintro e w1 ⟨rfl,hf1⟩;go_wp2_with fail;go_ret;exact ⟨rfl,HS.frF hf1,hf1.mono uu⟩
theorem Af (b c p q : Nat) (A : Option Addr) (rs : List Int) (w : World) (h : Sc w b A c rs p) (hq : q ≤ rs.length) : Calls prog 96 #[.pointer (some ⟨b,0,none⟩),.int .i64 (q : Int)] w (aV w b A c rs q (.bool true)) := by
 have c0 := h.blk.c0;have c1 := h.blk.c1;have f1 := h.blk.frozen 1;have HG := Hd (h.go q hq);have h0 : ¬ (q : Int) < 0 := jj;have h1 : ¬ (q : Int) > (rs.length : Int) := jj;clear h;go_enter func96,ntmps96;go_wp2_with fail;go_ret;exact ⟨rfl,HG.1,HG.2⟩
theorem rV (w : World) : Calls prog 147 #[.int .i32 (-1)] w fun e w' => e = .returned (.int .i64 6) ∧ w = w' := by
 have HV := Tryz.utf8_ValidRune (-1) w;rw [show Lib.validRune (-1) = false from rfl] at HV;go_enter func147,ntmps147;go_wp2_with fail;refine HV.mono ?_;rintro e w1 ⟨rfl,rfl⟩;go_wp2_with fail;go_ret;exact ⟨rfl,rfl⟩
def cT (r : Int) : Int := if r = -1 then 6 else bH r
theorem kK (r : Int) (w : World) (hv : r = -1 ∨ Lib.validRune r = true) : Calls prog 147 #[.int .i32 r] w fun e w' => e = .returned (.int .i64 (cT r)) ∧ w = w' := by
 unfold cT;by_cases h : r = -1
 · subst h;rw [if_pos rfl];exact rV w
 · rw [if_neg h];exact pT r w (hv.resolve_left h)
def cZ (r : Int) : Bool := (cT r == 1) || (cT r == 2) || (r == 95)
theorem lw (r : Int) (w : World) (hv : r = -1 ∨ Lib.validRune r = true) : Calls prog 94 #[.int .i32 r] w fun e w' => e = .returned (.bool (cZ r)) ∧ w = w' := by
 have HC := Hd (fun w => kK r w hv);unfold cZ;generalize cT r = k at *;by_cases h1 : k = 1
 · subst h1;go_enter func94,ntmps94;go_wp2_with fail;refine (HC _).mono ?_;rintro e w1 ⟨rfl,rfl⟩;go_wp2_with fail;go_ret;exact ⟨rfl,rfl⟩
 · have h1' : (k == 1) = false := by simpa using h1
   rw [h1'];by_cases h2 : k = 2
   · subst h2;go_enter func94,ntmps94;go_wp2_with fail;refine (HC _).mono ?_;rintro e w1 ⟨rfl,rfl⟩;go_wp2_with fail;refine (HC _).mono ?_;rintro e w1 ⟨rfl,rfl⟩;go_wp2_with fail;go_ret;exact ⟨rfl,rfl⟩
   · have h2' : (k == 2) = false := by simpa using h2
     rw [h2'];go_enter func94,ntmps94;go_wp2_with fail;refine (HC _).mono ?_;rintro e w1 ⟨rfl,rfl⟩;go_wp2_with fail;refine (HC _).mono ?_;rintro e w1 ⟨rfl,rfl⟩;go_wp2_with fail;go_ret;exact ⟨by simp,rfl⟩
def txt (T : ByteArray) : List Int := T.data.toList.map fun c => (c.toNat : Int)
def iV (rs : List Int) (p : Nat) (ts : List Int) : Bool := (List.range ts.length).all fun i => ah rs (p + i) == ts.getD i 0
theorem nh (h : ∀ i,i < ts.length → ah rs (p + i) = ts.getD i 0) : iV rs p ts = true := by
 unfold iV;rw [List.all_eq_true];intro i hi;rw [List.mem_range] at hi;simpa using h i hi
theorem dP {i : Nat} (hi : i < ts.length) (h : ¬ ah rs (p + i) = ts.getD i 0) : iV rs p ts = false := by
 unfold iV;rw [List.all_eq_false];exact ⟨i,List.mem_range.2 hi,by simpa using h⟩
theorem dA (T : ByteArray) : (txt T).length = T.size := by unfold txt; simp
theorem Ag (T : ByteArray) (i : Nat) (h : i < T.size) : (txt T).getD i 0 = ((T[i]'h).toNat : Int) := by
 unfold txt;rw [List.getD_eq_getElem?_getD,List.getElem?_map,List.getElem?_eq_getElem (by simpa using h)];simp;rfl
def kq (T : ByteArray) : Prop := ∀ i (h : i < T.size),(T[i]'h).toNat < 128
theorem iq (h : 0 ≤ ah rs p) : p < rs.length := by
 unfold ah at h;by_cases hp : p < rs.length
 · exact hp
 · rw [if_neg hp] at h;omega
def j0 (w : World) (b : Nat) (A : Option Addr) (c : Nat) (rs : List Int) (p n : Nat) (r : Bool) (e : Ending) (w' : World) : Prop := e = .returned (.bool r) ∧ Sc w' b A c rs (if r = true then p + n else p) ∧ Fr (fun j => j = b) w w'
theorem tS (T : ByteArray) (b c p : Nat) (A : Option Addr) (rs : List Int) (w : World) (hT : kq T) (hsz : T.size ≤ 100) (h : Sc w b A c rs p) :
    Calls prog 93 #[.pointer (some ⟨b,0,none⟩),.string T] w (j0 w b A c rs p T.size (iV rs p (txt T))) := by
 have HN := Hd (fun q w1 h1 => oM b c q A rs w1 h1);have c1 := h.blk.c1;have hbl := h.blk.lt;have HS := Hd h;have HP := Hd h.le;clear h;obtain ⟨bb,hbb⟩ : ∃ bb,bb = iV rs p (txt T) := ⟨_,rfl⟩;rw [← hbb];have HBB := Hd hbb;clear hbb;go_enter func93,ntmps93;go_wp2_with fail
 go_loopg [7] (T.size) (fun g nv wr => ∃ q : Nat,T.size ≤ q + g ∧ q ≤ T.size ∧ p + q ≤ rs.length ∧ dL wr w.heap.size T q ∧ Sc wr b A c rs (p + q) ∧ Fr (fun j => j = b ∨ w.heap.size ≤ j) w wr ∧ ∀ i,i < q → ah rs (p + i) = (txt T).getD i 0)
 case atStart => exact ⟨0,by omega,Nat.zero_le _,by have := HP.out; omega,dL.new w T 0,HS.frF ((Fr.refl _ _).alloc _),(Fr.refl _ _).alloc _,fun i hi => absurd hi jj⟩
 case round =>
  obtain ⟨q,hg,hq,hle,hit,hs,hf,hm⟩ := hrel;by_cases hp : q < T.size
  · have hnx := dm hit hp;rw [decode_ascii T q hp (hT q hp)] at hnx;have hit2 := hit.set (q + 1);have FI := hit.frS (q + 1);have hs2 := hs.fr FI (fun e => by have := hs.blk.lt; have := hf.size; omega) (fun j hj e => by
     subst e;rcases hs.row.2 with ⟨h0,_⟩ | ⟨gg,cap,cur,hv,_,hh,_⟩
     · rw [h0] at hj; cases hj
     · rw [hv] at hj;injection hj with hj;subst hj;rw [show wr.heap[w.heap.size]? = some (.stringIter T q) from hit] at hh;cases hh)
    have hf2 : Fr (fun j => j = b ∨ w.heap.size ≤ j) w (World.itSet wr w.heap.size T (q + 1)) := hf.trans FI (fun i hi e => .inr jj);have HIT := Hd hit2;have HS2 := Hd hs2;have HF := Hd hf2;generalize World.itSet wr w.heap.size T (q + 1) = w2 at *;have HM := Hd hm;have HT2 := Hd (Ag T q hp);have hr0 : (0 : Int) ≤ ((T[q]'hp).toNat : Int) := jj;have HNX := Hd (HN (p + q) w2 hs2);generalize hrr : ((T[q]'hp).toNat) = r at *;clear hit hf hit2 hf2 hs hs2 FI hm hrr;by_cases hpk : ah rs (p + q) = (r : Int)
    · have hlt := iq (rs := rs) (p := p + q) (by rw [hpk]; exact hr0);unfold lu at HNX;rw [if_pos hlt,hpk] at HNX;go_wp2_with fail;refine HNX.mono ?_;rintro e w3 ⟨rfl,hs3,hf3⟩;have HS3 := Hd hs3;have hi3 := HIT.fr hf3 (fun e => by have := HF.size; omega);have HI3 := Hd hi3;have HF3 := Hd (HF.trans hf3 (fun j _ e => .inl e));clear hs3 hf3 hi3;go_wp2_with fail
      go_roundg (T.size - (q + 1))
      case measure => omega
      case rel => exact ⟨q + 1,by omega,by omega,by omega,HI3,HS3,HF3,fun i hi => by
       by_cases hiq : i < q
       · exact HM.out i hiq
       · have : i = q := jj;subst this;rw [hpk,HT2.out]⟩
    · have HFL := Hd (dP (rs := rs) (p := p) (ts := txt T) (i := q) (by rw [dA]; exact hp) (by rw [HT2.out]; exact hpk));have hbf : bb = false := by rw [HBB.out,HFL.out]
      subst hbf;have hpk2 : (ah rs (p + q) != (r : Int)) = true := by simpa using hpk
      generalize ah rs (p + q) = pk at *;go_wp2_with fail;refine HNX.mono ?_;rintro e w3 ⟨rfl,hs3,hf3⟩;have c13 := hs3.blk.c1;have f13 := hs3.blk.frozen 1;have HG := Hd (hs3.go p HP);have HF3 := Hd (HF.trans hf3 (fun j _ e => .inl e));clear hs3 hf3;go_wp2_with fail;go_ret;exact ⟨rfl,HG.1,(HF3.trans HG.2 (fun j _ e => .inl e)).mono (fun j hj h => h.elim id (fun h => absurd h jj))⟩
  · have hnx := bJ hit hp;have hqe : q = T.size := jj;subst hqe;have hbt : bb = true := by rw [HBB.out]; exact nh (fun i hi => hm i (by rw [dA] at hi; exact hi))
    subst hbt;have HS2 := Hd hs;have HF := Hd hf;clear hit hs hf hm;go_wp2_with fail;go_ret;exact ⟨rfl,HS2,HF.mono (fun j hj h => h.elim id (fun h => absurd h jj))⟩
def Ah (w : World) (r : Bool) (e : Ending) (w' : World) : Prop := ∃ k : Int,e = .returned (.int .i64 k) ∧ decide (k ≥ 0) = r ∧ Fr (fun _ => False) w w'
theorem wT (B c : Nat) (A : Option Addr) (cs : List Int) (x : Int) (w : World) (hn : cs.length ≤ 100) (hr : ap w B (.slice A cs.length c) cs) : Calls prog 206 #[.slice A cs.length c,.int .i64 x] w (Ah w (cs.contains x)) := by
 have HR := Hd hr;obtain ⟨bb,hbb⟩ : ∃ bb,bb = cs.contains x := ⟨_,rfl⟩;rw [← hbb];have HBB := Hd hbb;clear hbb hr;go_enter func206,ntmps206;go_wp2_with fail
 go_loopw [8] (fun iv wr => ∃ k : Nat,iv = .int .i64 (k : Int) ∧ k ≤ cs.length ∧ Fr (fun _ => False) w wr ∧ ∀ j,j < k → ¬ x = cs.getD j 0) (fun iv _ => cs.length - (intOf iv).toNat)
 case atStart => exact ⟨0,rfl,Nat.zero_le _,Fr.refl _ _,fun j hj => absurd hj jj⟩
 case round =>
  obtain ⟨k,rfl,hk,hf,hno⟩ := hrel;have HF := Hd hf;have HNO := Hd hno;by_cases hlt : k < cs.length
  · have hlt' : (k : Int) < (cs.length : Int) := jj;have hr1 := HR.fr hf ii;unfold ap at hr1;obtain ⟨g,rfl,_,_,_⟩ := ar hr1 jj;have cc := eI hr1 k hlt;have HG := Hd (show cs.getD k 0 ∈ cs by rw [List.getD_eq_getElem?_getD,List.getElem?_eq_getElem hlt]; exact List.getElem_mem hlt);generalize hy : cs.getD k 0 = y at *;have HY := Hd hy;clear hr1 hf hno hy;by_cases hxy : x = y
    · subst hxy;have hbt : bb = true := by rw [HBB.out]; simpa using HG.out
      subst hbt;go_wp2_with fail;go_ret;exact ⟨_,rfl,FV,HF⟩
    · have hxy' : (x == y) = false := by simpa using hxy
      go_wp2_with fail;go_roundw
      case rel => exact ⟨k + 1,by go_num,by omega,HF,fun j hj => by
       by_cases hjk : j < k
       · exact HNO.out j hjk
       · have : j = k := jj;subst this;rw [HY.out]; exact hxy⟩
      case measure => simp only [intOf]; omega
  · have hlt' : ¬ (k : Int) < (cs.length : Int) := jj;have hbf : bb = false := by
     rw [HBB.out];rw [List.contains_eq_any_beq,List.any_eq_false];intro y hy;obtain ⟨j,hj,rfl⟩ := List.mem_iff_getElem.1 hy;have h := hno j jj;rw [List.getD_eq_getElem?_getD,List.getElem?_eq_getElem hj] at h;simpa using h
    subst hbf;clear hf hno;go_wp2_with fail;go_ret;exact ⟨_,rfl,rfl,HF⟩
theorem qj (B c : Nat) (A : Option Addr) (cs : List Int) (x : Int) (w : World) (hn : cs.length ≤ 100) (hr : ap w B (.slice A cs.length c) cs) : Calls prog 146 #[.slice A cs.length c,.int .i64 x] w (IsB (cs.contains x) w) := by
 have HI := Hd (wT B c A cs x w hn hr);generalize cs.contains x = bb at *;clear hr;go_enter func146,ntmps146;go_wp2_with fail;refine HI.mono ?_;rintro e w1 ⟨k,rfl,hk,hf⟩;go_wp2_with fail;go_ret;exact ⟨by rw [← hk]; rfl,hf⟩
def tT (rs cs : List Int) : Nat → Nat → Nat
 | 0,p => p
 | f + 1,p => if p < rs.length ∧ cs.contains (cT (rs.getD p 0)) = true then tT rs cs f (p + 1) else p
def skip (rs cs : List Int) (p : Nat) : Nat := tT rs cs (rs.length - p) p
theorem dQ (h : p < rs.length) (hc : cs.contains (cT (rs.getD p 0)) = true) : skip rs cs p = skip rs cs (p + 1) := by
 unfold skip;rw [show rs.length - p = (rs.length - (p + 1)) + 1 by omega,tT,if_pos ⟨h,hc⟩]
theorem bo (h : ¬ (p < rs.length ∧ cs.contains (cT (rs.getD p 0)) = true)) : skip rs cs p = p := by
 unfold skip;cases rs.length - p with
 | zero => rfl
 | succ f => rw [tT,if_neg h]
theorem kL (rs cs : List Int) : ∀ m p,rs.length - p ≤ m → p ≤ rs.length → p ≤ skip rs cs p ∧ skip rs cs p ≤ rs.length := by
 intro m
 induction m with
 | zero =>
  intro p h hp;rw [bo jj];omega
 | succ m ih =>
  intro p h hp;by_cases hc : p < rs.length ∧ cs.contains (cT (rs.getD p 0)) = true
  · rw [dQ hc.1 hc.2];have := ih (p + 1) jj jj;omega
  · rw [bo hc];omega
theorem ly {q0 : Nat} (h : Sc w b (some ⟨g,0,none⟩) c rs q0) (a q : Nat) (haq : a ≤ q) (hq : q ≤ rs.length) :
    ∀ cap,(convert 202 9 (.slice (some ⟨g,a,none⟩) (q - a) cap)).run prog w = .ok (.string (runesBytes ((rs.drop a).take (q - a)))) w := fun cap =>
 run_convert_runes w 202 9 21 ⟨g,a,none⟩ (q - a) cap (rs.drop a) (by simp; omega) underlying202 underlying21 underlying9 (fun j hj => by
  have hj2 : a + j < rs.length := by simp at hj; omega
  have e : (⟨g,a,none⟩ : Addr).add j = ⟨g,a + j,none⟩ := Addr.add_mid g a j;rw [e,ng h.row (a + j) hj2];simp only [List.getD_eq_getElem?_getD,List.getElem?_drop])
def Ai (w : World) (b : Nat) (A : Option Addr) (c : Nat) (rs : List Int) (p q : Nat) (e : Ending) (w' : World) : Prop :=
 e = .returned (.string (runesBytes ((rs.drop p).take (q - p)))) ∧ Sc w' b A c rs q ∧ Fr (fun j => j = b) w w'
theorem CV (b c p B kc : Nat) (A K : Option Addr) (rs cs : List Int) (w : World) (hn : cs.length ≤ 100) (h : Sc w b A c rs p) (hr : ap w B (.slice K cs.length kc) cs) :
    Calls prog 91 #[.pointer (some ⟨b,0,none⟩),.slice K cs.length kc] w (Ai w b A c rs p (skip rs cs p)) := by
 have c1 := h.blk.c1;have HS := Hd h;have HR := Hd hr;have HE := Hd (fun q w1 h1 => oL b c q A rs w1 h1);have HP := Hd (fun q w1 h1 => gn b c q A rs w1 h1);have HC := Hd (fun x w1 h1 => qj B kc K cs x w1 hn h1);have hsm := h.small;clear h hr;go_enter func91,ntmps91;go_wp2_with fail
 go_loopg [11] (rs.length) (fun g nv wr => ∃ q : Nat,rs.length ≤ q + g ∧ p ≤ q ∧ q ≤ rs.length ∧ skip rs cs q = skip rs cs p ∧ Sc wr b A c rs q ∧ Fr (fun j => j = b) w wr)
 case atStart => exact ⟨p,by omega,Nat.le_refl _,HS.le,rfl,HS,Fr.refl _ _⟩
 case round =>
  obtain ⟨q,hg,hpq,hq,hsk,hs,hf⟩ := hrel;have HSK := Hd hsk;have HSQ := Hd hs;have HF := Hd hf;have HEQ := Hd (HE.out q wr hs);obtain ⟨g0,rfl,_,_,_⟩ := ar hs.row hs.pos;by_cases hq2 : q < rs.length
  · rw [FX] at HEQ;by_cases hc : cs.contains (cT (rs.getD q 0)) = true
    · have hst := dQ hq2 hc;have HST := Hd hst;have HPK := Hd (fun w1 h1 => HP.out q w1 h1);unfold ah at HPK;rw [if_pos hq2] at HPK;have hval := (hs.valid (rs.getD q 0) (by rw [List.getD_eq_getElem?_getD,List.getElem?_eq_getElem hq2]; exact List.getElem_mem hq2)).1;have HCL := Hd (fun w1 => kK (rs.getD q 0) w1 (.inr hval));have HCC := Hd (fun w1 h1 => HC (cT (rs.getD q 0)) w1 h1);rw [hc] at HCC;generalize cT (rs.getD q 0) = kk at *;generalize rs.getD q 0 = rr at *;clear hs hf hst hsk;go_wp2_with fail;refine HEQ.mono ?_;rintro e w1 ⟨rfl,hf1⟩;have HS1 := Hd (HSQ.frF hf1);have HF1 := Hd (HF.trans hf1 uu);clear hf1;go_wp2_with fail;refine (HPK _ HS1).mono ?_;rintro e w2 ⟨rfl,hf2⟩;have HS2 := Hd (HS1.frF hf2);have HF2 := Hd (HF1.trans hf2 uu);clear hf2;go_wp2_with fail;refine (HCL _).mono ?_;rintro e w3 ⟨rfl,rfl⟩;go_wp2_with fail;refine (HCC _ (HR.fr HF2 (fun j hj e => ac HR.out HS.blk de (by rw [hj,e])))).mono ?_;rintro e w4 ⟨rfl,hf4⟩;have hs4 := HS2.frF hf4;have c14 := hs4.blk.c1;have f14 := hs4.blk.frozen 1;have HG := Hd (hs4.go (q + 1) jj);have HF4 := Hd (HF2.trans hf4 uu);clear hs4 hf4;go_wp2_with fail
      go_roundg (rs.length - (q + 1))
      case measure => omega
      case rel => exact ⟨q + 1,by omega,by omega,by omega,by rw [← HST.out]; exact HSK,HG.1,HF4.trans' HG.2⟩
    · have HST := Hd (bo (rs := rs) (cs := cs) (p := q) (fun h => hc h.2));have HPK := Hd (fun w1 h1 => HP.out q w1 h1);unfold ah at HPK;rw [if_pos hq2] at HPK;have hval := (hs.valid (rs.getD q 0) (by rw [List.getD_eq_getElem?_getD,List.getElem?_eq_getElem hq2]; exact List.getElem_mem hq2)).1;have HCL := Hd (fun w1 => kK (rs.getD q 0) w1 (.inr hval));have HCC := Hd (fun w1 h1 => HC (cT (rs.getD q 0)) w1 h1);have hcf : cs.contains (cT (rs.getD q 0)) = false := by simpa using hc
      rw [hcf] at HCC;generalize cT (rs.getD q 0) = kk at *;generalize rs.getD q 0 = rr at *;clear hs hf hsk hc hcf;go_wp2_with fail;refine HEQ.mono ?_;rintro e w1 ⟨rfl,hf1⟩;have HS1 := Hd (HSQ.frF hf1);have HF1 := Hd (HF.trans hf1 uu);clear hf1;go_wp2_with fail;refine (HPK _ HS1).mono ?_;rintro e w2 ⟨rfl,hf2⟩;have HS2 := Hd (HS1.frF hf2);have HF2 := Hd (HF1.trans hf2 uu);clear hf2;go_wp2_with fail;refine (HCL _).mono ?_;rintro e w3 ⟨rfl,rfl⟩;go_wp2_with fail;refine (HCC _ (HR.fr HF2 (fun j hj e => ac HR.out HS.blk de (by rw [hj,e])))).mono ?_;rintro e w4 ⟨rfl,hf4⟩;have hs4 := HS2.frF hf4;have hcv := fun n => ly (hs4.frF ((Fr.refl _ w4).drewN n)) p q hpq hq;have c04 := hs4.blk.c0;have c14 := hs4.blk.c1;have hqc : (q : Int) ≤ (c : Int) := by have := k8 hs4.row; omega
      have hqn : q ≤ c := by have := k8 hs4.row; omega
      have hpi : (p : Int) ≤ (q : Int) := jj;have HF4 := Hd (HF2.trans hf4 uu);have HS4 := Hd hs4;have HQ := Hd (show q = skip rs cs p by rw [← HSK.out,HST.out]);generalize skip rs cs p = qq at *;clear hs4 hf4;go_wp2_with fail
      go_big_quiet (fail);have hqe := HQ.out;subst hqe;go_wp2_with fail;go_ret;exact ⟨rfl,HS4.frF ((Fr.refl _ _).drewN _),HF4.drewN _⟩
  · rw [FV] at HEQ;have HST := Hd (bo (rs := rs) (cs := cs) (p := q) (fun h => hq2 h.1));clear hs hf hsk;go_wp2_with fail;refine HEQ.mono ?_;rintro e w4 ⟨rfl,hf4⟩;have hs4 := HSQ.frF hf4;have hcv := fun n => ly (hs4.frF ((Fr.refl _ w4).drewN n)) p q hpq hq;have c04 := hs4.blk.c0;have c14 := hs4.blk.c1;have hqc : (q : Int) ≤ (c : Int) := by have := k8 hs4.row; omega
    have hqn : q ≤ c := by have := k8 hs4.row; omega
    have hpi : (p : Int) ≤ (q : Int) := jj;have HF4 := Hd (HF.trans hf4 uu);have HS4 := Hd hs4;have HQ := Hd (show q = skip rs cs p by rw [← HSK.out,HST.out]);generalize skip rs cs p = qq at *;clear hs4 hf4 hq2;by_cases hcp : c = p
    · have hqp : q - p = 0 := jj;have hcv0 : ∀ n cap,(convert 202 9 (.slice (some ⟨g0,0,none⟩) (q - p) cap)).run prog (w4.drewN n) = .ok (.string (runesBytes ((rs.drop p).take (q - p)))) (w4.drewN n) := fun n cap => by
       rw [hqp];exact ly (HS4.frF ((Fr.refl _ w4).drewN n)) 0 0 (Nat.le_refl _) (Nat.zero_le _) cap
      clear hcv hqp;go_wp2_with fail
      go_big_quiet (fail);subst hcp;have hqe := HQ.out;subst hqe;go_wp2_with fail;go_ret;exact ⟨by rw [show q - c = 0 by omega,List.take_zero]; rfl,HS4.frF ((Fr.refl _ _).drewN _),HF4.drewN _⟩
    · go_wp2_with fail
      go_big_quiet (fail);have hqe := HQ.out;subst hqe;go_wp2_with fail;go_ret;exact ⟨rfl,HS4.frF ((Fr.refl _ _).drewN _),HF4.drewN _⟩
theorem dn (b c p : Nat) (A : Option Addr) (rs : List Int) (w : World) (h : Sc w b A c rs p) :
    Calls prog 41 #[.pointer (some ⟨b,0,none⟩)] w fun e w' => (∃ k : Int,e = .returned (.int .i64 k)) ∧ Sc w' b A c rs (skip rs [0] p) ∧ Fr (fun j => j = b) w w' := by
 have hf := Fr.a1 w (.cells #[.int .i64 0] 3);have hown := World.ownsRow_lit (base := 0) (e := 3) (size := 1) w #[.int .i64 0] 1 (Nat.zero_le _) de rfl;have HR := Hd (CV b c p 0 1 A (some ⟨w.heap.size,0,none⟩) rs [0] _ de (h.frF hf) hown);have HF := Hd hf;generalize skip rs [0] p = q at *;clear h hown hf;go_enter func41,ntmps41;go_wp2_with fail;refine HR.mono ?_;rintro e w1 ⟨rfl,hs1,hf1⟩;have HS1 := Hd hs1;have HF1 := Hd ((HF.mono uu).trans' hf1);generalize runesBytes ((rs.drop p).take (q - p)) = str at *;clear hs1 hf1;go_wp2_with fail;go_ret;exact ⟨⟨_,rfl⟩,HS1,HF1⟩
def Cp (place code : Int) : Value := .iface 122 (.agg #[.int .i64 place,.int .i64 code])
def rW (place code : Int) (e : Ending) : Prop := e = .panicked [{ v := Cp place code,recovered := false }]
def az (rs : List Int) (p : Nat) (T : ByteArray) : Bool := iV rs (skip rs [0] p) (txt T) && !cZ (ah rs (skip rs [0] p + T.size))
def aK (rs : List Int) (p : Nat) (T : ByteArray) : Nat := if az rs p T = true then skip rs [0] p + T.size else skip rs [0] p
def aj (rs : List Int) (p : Nat) (T : ByteArray) : Bool := iV rs (skip rs [0] p) (txt T)
def an (rs : List Int) (p : Nat) (T : ByteArray) : Nat := if aj rs p T = true then skip rs [0] p + T.size else skip rs [0] p
theorem aE {w0 : World} {v : Value} (h : Blk w w0.heap.size 62 #[v]) (hb : b < w0.heap.size) (hf : Fr (fun j => j = b) w w') : Blk w' w0.heap.size 62 #[v] := h.fr hf (by omega)
theorem oN (h : Sc w b A c rs p) (q : Nat) : ah rs q = -1 ∨ Lib.validRune (ah rs q) = true := by
 unfold ah;by_cases hq : q < rs.length
 · rw [if_pos hq];exact .inr (h.valid _ (by rw [List.getD_eq_getElem?_getD,List.getElem?_eq_getElem hq]; exact List.getElem_mem hq)).1
 · rw [if_neg hq];exact .inl rfl
theorem b8 (T : ByteArray) (b c p : Nat) (A : Option Addr) (rs : List Int) (w : World) (hT : kq T) (hsz : T.size ≤ 100) (h : Sc w b A c rs p) :
    Calls prog 97 #[.agg #[.pointer (some ⟨b,0,none⟩)],.string T] w (aV w b A c rs (an rs p T) (.bool (aj rs p T))) := by
 have hf := Fr.a1 w (.cells #[.pointer (some ⟨b,0,none⟩)] 62);have HB := Hd (dn b c p A rs _ (h.frF hf));have HI := Hd (fun q w1 h1 => tS T b c q A rs w1 hT hsz h1);have HX := Hd (Blk.new w 62 #[.pointer (some ⟨b,0,none⟩)]);have HF := Hd hf;have hbl := h.blk.lt;obtain ⟨r,hr⟩ : ∃ r,r = aj rs p T := ⟨_,rfl⟩;obtain ⟨q',hq'⟩ : ∃ q',q' = an rs p T := ⟨_,rfl⟩;rw [← hr,← hq'];unfold an at hq';rw [← hr] at hq';unfold aj at hr;have HR := Hd hr;have HQ := Hd hq';clear h hf hr hq';go_enter func97,ntmps97;go_wp2_with fail;refine HB.mono ?_;rintro e w1 ⟨⟨k,rfl⟩,hs1,hf1⟩;have hx1 := aE HX.out hbl hf1;have x1 := hx1.c0;have HII := Hd (HI _ w1 hs1);have HF1 := Hd ((HF.mono (T := fun j => j = b) uu).trans' hf1);generalize skip rs [0] p = q at *;rw [← HR.out] at HII;obtain ⟨q2,hq2⟩ : ∃ q2,q2 = if r = true then q + T.size else q := ⟨_,rfl⟩;have HQ2 := Hd (show q' = q2 by rw [HQ.out,hq2]);unfold j0 at HII;rw [← hq2] at HII;clear hx1 hs1 hf1 hq2;go_wp2_with fail;refine HII.mono ?_;rintro e w2 ⟨rfl,hs2,hf2⟩;have hqe := HQ2.out;subst hqe;go_wp2_with fail;go_ret;exact ⟨rfl,hs2,HF1.trans' hf2⟩
theorem dB (T : ByteArray) (b c p : Nat) (A : Option Addr) (rs : List Int) (w : World) (hT : kq T) (hsz : T.size ≤ 100) (h : Sc w b A c rs p) :
    Calls prog 48 #[.agg #[.pointer (some ⟨b,0,none⟩)],.string T] w (aV w b A c rs (aK rs p T) (.bool (az rs p T))) := by
 have hf := Fr.a1 w (.cells #[.pointer (some ⟨b,0,none⟩)] 62);have HB := Hd (dn b c p A rs _ (h.frF hf));have HP := Hd (fun q w1 h1 => fN b c q A rs w1 h1);have HI := Hd (fun q w1 h1 => tS T b c q A rs w1 hT hsz h1);have HK := Hd (fun q w1 h1 => gn b c q A rs w1 h1);have HL := Hd (fun q w1 => lw (ah rs q) w1 (oN h q));have HBA := Hd (fun q q' w1 h1 => Af b c q q' A rs w1 h1);have HX := Hd (Blk.new w 62 #[.pointer (some ⟨b,0,none⟩)]);have HF := Hd hf;have hbl := h.blk.lt;have hle := (kL rs [0] rs.length p jj h.le).2;obtain ⟨o,ho⟩ : ∃ o,o = az rs p T := ⟨_,rfl⟩;obtain ⟨q',hq'⟩ : ∃ q',q' = aK rs p T := ⟨_,rfl⟩;rw [← ho,← hq'];unfold aK at hq';rw [← ho] at hq';unfold az at ho;have HO := Hd ho;have HQ := Hd hq';clear h hf ho hq';go_enter func48,ntmps48;go_wp2_with fail;refine HB.mono ?_;rintro e w1 ⟨⟨k,rfl⟩,hs1,hf1⟩;have hx1 := aE HX.out hbl hf1;have x1 := hx1.c0;have HPP := Hd (HP _ w1 hs1);have HII := Hd (HI _ w1 hs1);have HX1 := Hd hx1;have HF1 := Hd ((HF.mono (T := fun j => j = b) uu).trans' hf1);generalize skip rs [0] p = q at *;generalize hrr : iV rs q (txt T) = r at *;obtain ⟨q2,hq2⟩ : ∃ q2,q2 = if r = true then q + T.size else q := ⟨_,rfl⟩;unfold j0 at HII;rw [← hq2] at HII;have HQ2 := Hd hq2;clear hx1 hs1 hf1 hrr hq2;go_wp2_with fail;refine HPP.mono ?_;rintro e w1' ⟨rfl,rfl⟩;go_wp2_with fail;refine HII.mono ?_;rintro e w2 ⟨rfl,hs2,hf2⟩;have hx2 := aE HX1.out hbl hf2;have x2 := hx2.c0;have HF2 := Hd (HF1.trans' hf2);have HX2 := Hd hx2;have HS2 := Hd hs2;clear x1 hx2 hf2 hs2;cases r with
 | false =>
  have hq2 : q2 = q := HQ2.out;subst hq2;have ho := HO.out;rw [Bool.false_and] at ho;subst ho;have hqe := HQ.out;rw [if_neg de] at hqe;subst hqe;have HBB := Hd (HBA.out q' q' w2 HS2.out hle);go_wp2_with fail;refine HBB.mono ?_;rintro e w3 ⟨rfl,hs3,hf3⟩;go_wp2_with fail;go_ret;exact ⟨rfl,hs3,HF2.trans' hf3⟩
 | true =>
  have hq2 : q2 = q + T.size := HQ2.out;subst hq2;have ho := HO.out;rw [Bool.true_and] at ho;have HKK := Hd (HK (q + T.size) w2 HS2);have HLL := Hd (fun w => HL (q + T.size) w);generalize ah rs (q + T.size) = pk at *;generalize cZ pk = lt at *;have HO2 := Hd ho;clear ho;go_wp2_with fail;refine HKK.mono ?_;rintro e w3 ⟨rfl,hf3⟩;have hx3 := HX2.fr hf3 id;have x3 := hx3.c0;have HF3 := Hd (HF2.trans hf3 uu);have HS3 := Hd (HS2.frF hf3);clear x2 hx3 hf3;go_wp2_with fail;refine (HLL _).mono ?_;rintro e w3' ⟨rfl,rfl⟩;cases lt with
  | false =>
   have ho : o = true := HO2.out;subst ho;have hqe := HQ.out;rw [if_pos rfl] at hqe;subst hqe;go_wp2_with fail;go_ret;exact ⟨rfl,HS3,HF3⟩
  | true =>
   have ho : o = false := HO2.out;subst ho;have hqe := HQ.out;rw [if_neg de] at hqe;subst hqe;have HBB := Hd (HBA (q' + T.size) q' _ HS3.out hle);go_wp2_with fail;refine HBB.mono ?_;rintro e w4 ⟨rfl,hs4,hf4⟩;go_wp2_with fail;go_ret;exact ⟨rfl,hs4,HF3.trans' hf4⟩
theorem cD (b c p : Nat) (A : Option Addr) (rs : List Int) (w : World) (h : Sc w b A c rs p) :
    Calls prog 50 #[.agg #[.pointer (some ⟨b,0,none⟩)]] w (aV w b A c rs (skip rs [0] p) (.int .i32 (ah rs (skip rs [0] p)))) := by
 have hf := Fr.a1 w (.cells #[.pointer (some ⟨b,0,none⟩)] 62);have HB := Hd (dn b c p A rs _ (h.frF hf));have HK := Hd (fun q w1 h1 => gn b c q A rs w1 h1);have HX := Hd (Blk.new w 62 #[.pointer (some ⟨b,0,none⟩)]);have HF := Hd hf;have hbl := h.blk.lt;generalize skip rs [0] p = q at *;obtain ⟨pk,hpk⟩ : ∃ pk,pk = ah rs q := ⟨_,rfl⟩;have HPK := Hd hpk;rw [← hpk];clear h hf hpk;go_enter func50,ntmps50;go_wp2_with fail;refine HB.mono ?_;rintro e w1 ⟨⟨k,rfl⟩,hs1,hf1⟩;have hx1 := aE HX.out hbl hf1;have x1 := hx1.c0;have HKK := Hd (HK.out q w1 hs1);rw [← HPK.out] at HKK;have HS1 := Hd hs1;have HF1 := Hd ((HF.mono (T := fun j => j = b) uu).trans' hf1);clear hx1 hs1 hf1;go_wp2_with fail;refine HKK.mono ?_;rintro e w2 ⟨rfl,hf2⟩;go_wp2_with fail;go_ret;exact ⟨rfl,HS1.frF hf2,HF1.trans hf2 uu⟩
theorem kM (T : ByteArray) (b c p q : Nat) (A : Option Addr) (rs : List Int) (w : World) (hT : kq T) (hsz : T.size ≤ 100) (hw : az rs p T = true) (hq : aK rs p T = q) (h : Sc w b A c rs p) :
    Calls prog 45 #[.agg #[.pointer (some ⟨b,0,none⟩)],.string T] w (aV w b A c rs q (.tuple #[])) := by
 have hf := Fr.a1 w (.cells #[.pointer (some ⟨b,0,none⟩)] 62);have HW := Hd (dB T b c p A rs _ hT hsz (h.frF hf));have HF := Hd hf;rw [hw,hq] at HW;clear h hf hw hq;go_enter func45,ntmps45;go_wp2_with fail;refine HW.mono ?_;rintro e w1 ⟨rfl,hs1,hf1⟩;go_wp2_with fail
 go_end0;exact ⟨rfl,hs1,(HF.mono uu).trans' hf1⟩
theorem jo (T : ByteArray) (b c p q : Nat) (A : Option Addr) (rs : List Int) (w : World) (hT : kq T) (hsz : T.size ≤ 100) (hw : aj rs p T = true) (hq : an rs p T = q) (h : Sc w b A c rs p) :
    Calls prog 99 #[.agg #[.pointer (some ⟨b,0,none⟩)],.string T] w (aV w b A c rs q (.tuple #[])) := by
 have hf := Fr.a1 w (.cells #[.pointer (some ⟨b,0,none⟩)] 62);have HW := Hd (b8 T b c p A rs _ hT hsz (h.frF hf));have HF := Hd hf;rw [hw,hq] at HW;clear h hf hw hq;go_enter func99,ntmps99;go_wp2_with fail;refine HW.mono ?_;rintro e w1 ⟨rfl,hs1,hf1⟩;go_wp2_with fail
 go_end0;exact ⟨rfl,hs1,(HF.mono uu).trans' hf1⟩
theorem lz {q : Nat} {T : ByteArray} (h : az rs p T = false) (hq : skip rs [0] p = q) : aK rs p T = q := by
 unfold aK;rw [h];simpa using hq
theorem CW (Ts : List ByteArray) (k : Nat) (b c p B : Nat) (A N : Option Addr) (nc : Nat) (rs : List Int) (w : World) (hT : ∀ T,T ∈ Ts → kq T ∧ T.size ≤ 100) (hn : Ts.length ≤ 100) (hk : k < Ts.length)
    (hskip : skip rs [0] (skip rs [0] p) = skip rs [0] p)
    (hno : ∀ j,j < k → az rs p (Ts.getD j ByteArray.empty) = false ∧ az rs (skip rs [0] p) (Ts.getD j ByteArray.empty) = false)
    (hyes : az rs p (Ts.getD k ByteArray.empty) = true ∧ az rs (skip rs [0] p) (Ts.getD k ByteArray.empty) = true) (q : Nat) (hq : aK rs p (Ts.getD k ByteArray.empty) = q ∧ aK rs (skip rs [0] p) (Ts.getD k ByteArray.empty) = q)
    (h : Sc w b A c rs p) (hr : w.ownsRow B 9 1 (.slice N Ts.length nc) Ts.length (Ts.map .string)) :
    Calls prog 46 #[.agg #[.pointer (some ⟨b,0,none⟩)],.slice N Ts.length nc] w (aV w b A c rs q (.string (Ts.getD k ByteArray.empty))) := by
 have hf := Fr.a1 w (.cells #[.pointer (some ⟨b,0,none⟩)] 62);have HW := Hd (fun j q1 w1 (hj : j < Ts.length) h1 => dB (Ts.getD j ByteArray.empty) b c q1 A rs w1 (hT _ (by rw [List.getD_eq_getElem?_getD,List.getElem?_eq_getElem hj]; exact List.getElem_mem hj)).1 (hT _ (by rw [List.getD_eq_getElem?_getD,List.getElem?_eq_getElem hj]; exact List.getElem_mem hj)).2 h1);have HX := Hd (Blk.new w 62 #[.pointer (some ⟨b,0,none⟩)]);have HF := Hd hf;have HR := Hd hr;have HS := Hd h;have HNO := Hd hno;have HYES := Hd hyes;have HQ := Hd hq;have HSK := Hd hskip;have hbl := h.blk.lt;obtain ⟨N0,rfl,_,_,_⟩ := ar hr jj;clear h hf hr hno hyes hq hskip;go_enter func46,ntmps46;go_wp2_with fail
 go_loopw [9] (fun iv wr => ∃ (j q1 : Nat),iv = .int .i64 (j : Int) ∧ j ≤ k ∧ (q1 = p ∨ q1 = skip rs [0] p) ∧ Sc wr b A c rs q1 ∧ Blk wr w.heap.size 62 #[.pointer (some ⟨b,0,none⟩)] ∧ Fr (fun i => i = b) (w.alloc (.cells #[.pointer (some ⟨b,0,none⟩)] 62)) wr) (fun iv _ => Ts.length - (intOf iv).toNat)
 case atStart => exact ⟨0,p,rfl,Nat.zero_le _,.inl rfl,HS.frF HF,HX,Fr.refl _ _⟩
 case round =>
  obtain ⟨j,q1,rfl,hj,hq1,hs,hx,hfr⟩ := hrel;have hlt : (j : Int) < (Ts.length : Int) := jj;have hrr := aa (HR.alloc (.cells #[.pointer (some ⟨b,0,none⟩)] 62)) hfr (fun i hi e => ac HR.out HS.blk de (by rw [hi,e]));have cc := bL hrr j jj;have x0 := hx.c0;have HWW := Hd (HW.out j q1 wr jj hs);have HFR := Hd hfr;have HXX := Hd hx;clear hrr hs hx hfr;by_cases hjk : j = k
  · subst hjk;have hyy : az rs q1 (Ts.getD j ByteArray.empty) = true := by rcases hq1 with rfl | rfl; exact HYES.1; exact HYES.2
    have hqq : aK rs q1 (Ts.getD j ByteArray.empty) = q := by rcases hq1 with rfl | rfl; exact HQ.1; exact HQ.2
    rw [hyy,hqq] at HWW;clear hyy hqq;generalize hT0 : Ts.getD j ByteArray.empty = T at *;clear hT0;go_wp2_with fail;refine HWW.mono ?_;rintro e w1 ⟨rfl,hs1,hf1⟩;go_wp2_with fail;go_ret;exact ⟨rfl,hs1,((HF.mono uu).trans' HFR).trans' hf1⟩
  · have hlt2 : j < k := jj;have hnn : az rs q1 (Ts.getD j ByteArray.empty) = false := by rcases hq1 with rfl | rfl; exact (HNO.out j hlt2).1; exact (HNO.out j hlt2).2
    have hqq : aK rs q1 (Ts.getD j ByteArray.empty) = skip rs [0] p := lz hnn (by rcases hq1 with rfl | rfl; rfl; exact HSK);rw [hnn,hqq] at HWW;clear hnn hqq hq1;generalize hT0 : Ts.getD j ByteArray.empty = T at *;clear hT0;go_wp2_with fail;refine HWW.mono ?_;rintro e w1 ⟨rfl,hs1,hf1⟩;have HS1 := Hd hs1;have HX1 := Hd (aE HXX.out hbl hf1);have HF1 := Hd (HFR.trans' hf1);clear hs1 hf1;go_wp2_with fail;go_roundw
    case rel => exact ⟨j + 1,_,by go_num,by omega,.inr rfl,HS1,HX1,HF1⟩
    case measure => simp only [intOf]; omega
end Go.Proofs.YtfaapkpebnagmaaGreatDoor
