/- Texts of the proof, one behind the other: Bf, Bk, De, Ei, Xj, Fh, Go, Gq, Gt. -/
import Derived.Test.YtfaapkpebnagmaaGreatDoorXi
import Derived.Test.YtfaapkpebnagmaaGreatDoorXh
import Derived.Lib.UnsafeStr
import Derived.Lib.AppendStr
import Derived.Lib.LaidTab
namespace Go.Proofs.YtfaapkpebnagmaaGreatDoor
open _root_.Go.Proofs.Tryz
open Go.RowKit Go
set_option linter.unusedVariables false
set_option maxRecDepth 100000
set_option maxHeartbeats 400000000
variable {w w' : World} {B p b g : Nat} {rs : List Int} {l : List UInt8} {cs : List Value} {t : TypeId}
theorem uZ (b : Nat) (v : Value) (w : World) (h : Blk w b 397 #[.pointer (some ⟨b,0,none⟩),v]) : Calls prog 339 #[.pointer (some ⟨b,0,none⟩)] w fun e w' => e = .returned (.tuple #[]) ∧ w' = w := by
 have h0 := h.c0;obtain ⟨j,hj,_⟩ := Option.map_eq_some_iff.1 (show (prog.info? 397).map (·.size) = some 2 by kernel_rfl);have hn := fun a => Lib.run_neq_ptr_same (P := prog) w a underlying395 hj;clear h;go_enter func339,ntmps339;go_wp2_with fail
 go_end0;exact ⟨rfl,rfl⟩
theorem rX (b : Nat) (v : Value) (w : World) (h : Blk w b 397 #[.pointer none,v]) : Calls prog 339 #[.pointer (some ⟨b,0,none⟩)] w fun e w' => e = .returned (.tuple #[]) ∧ w' = w.setCell ⟨b,0,none⟩ (.pointer (some ⟨b,0,none⟩)) := by
 have h0 := h.c0;have f0 := h.frozen 0;have hsh : w.shape? b = some (397,2) := by
  unfold Blk at h;simp [World.shape?,h]
 obtain ⟨j,hj,hjs⟩ := Option.map_eq_some_iff.1 (show (prog.info? 397).map (·.size) = some 2 by kernel_rfl);have hto := Lib.run_to_unsafe (P := prog) w ⟨b,0,none⟩ underlying395 underlying466 hj (by rw [hjs]; decide) hsh (Nat.zero_lt_succ 1);have hne : ∀ x w,(callFunc 361 #[x]).run prog w = .ok (.value x) w := fun x w => by
  rw [run_callFunc_extern func361 kr kr kr (e := Extern.AbiNoEscape.same) kr,Lib.run_noEscape];rfl
 have hfrom := Lib.run_from_unsafe (P := prog) w ⟨b,0,none⟩ underlying466 underlying395 hj hsh kr;clear h;go_enter func339,ntmps339;go_wp2_with fail
 go_end0;exact ⟨rfl,rfl⟩
def Bu (w : World) (B b : Nat) (l : List UInt8) : Prop := ∃ (p v : Value),Blk w b 397 #[p,v] ∧ (p = .pointer none ∨ p = .pointer (some ⟨b,0,none⟩)) ∧ w.ownsRow B 5 1 v l.length (Lib.byteCells l) ∧ B ≤ b
theorem EH : (prog.info? 5).map (fun i => (i.zero,i.size,i.bytes)) = some (some (.int .u8 0),1,1) := kr
theorem mP (l : List UInt8) : (Lib.byteCells l).length = l.length := by unfold Lib.byteCells; simp
theorem lA (l : List UInt8) (c : UInt8) : Lib.byteCells (l ++ [c]) = Lib.byteCells l ++ [.int .u8 (c.toNat : Int)] := by unfold Lib.byteCells; simp
theorem u3 (B : Nat) (v : Value) (l : List UInt8) (c : UInt8) (w : World) (hc : c.toNat < 128) (hl : l.length ≤ 20000) (hB : B ≤ w.heap.size) (hr : w.ownsRow B 5 1 v l.length (Lib.byteCells l)) :
    Calls prog 340 #[v,.int .i32 (c.toNat : Int)] w fun e w' => ∃ v',e = .returned v' ∧ w'.ownsRow B 5 1 v' (l.length + 1) (Lib.byteCells (l ++ [c])) ∧ Fr (fun j => v.ownBlock = some j) w w' := by
 obtain ⟨i5,hi5,hz50,hz51,hz52⟩ := info_parts EH;obtain ⟨A,cc,hv⟩ := ad hr;subst hv;rw [lA];have HR := Hd hr;have h1 : (c.toNat : Int) ≤ 127 := jj;generalize c.toNat = r at *;clear hr;go_enter func340,ntmps340;go_wp2_with (at_builtin; refine wpList_append_own _ rfl _ _ 318 rfl B 5 i5 _ 1 1 underlying318 hi5 hz50 hz51 hz52 rfl de (.slice A l.length cc) l.length (Lib.byteCells l) (by rfl) (HR.alloc _) ⟨w.heap.size,0,none⟩ 1 1 [.int .u8 (r : Int)] (by rfl) rfl (World.news_of_block (heap_alloc_new w _)) (by intro u hu; rw [List.mem_singleton] at hu; rw [hu]; rfl) (by unfold maxLen; omega) jj (by simp; omega) ?_; intro v7 w7 hown7 hgr7 _; obtain ⟨A7,c7,hv7⟩ := ad hown7; subst hv7; have HOWN7 := Hd hown7; have F7 := Hd (show Fr (fun j => (Value.slice A l.length cc).ownBlock = some j) w w7 from ((Fr.refl _ w).alloc _).trans (Fr.of_grown hgr7) ii); clear hown7 hgr7);go_ret;exact ⟨_,rfl,HOWN7,F7⟩
theorem u4 (B b : Nat) (l : List UInt8) (c : UInt8) (w : World) (hc : c.toNat < 128) (hl : l.length ≤ 20000) (hB : B ≤ w.heap.size) (h : Bu w B b l) :
    Calls prog 308 #[.pointer (some ⟨b,0,none⟩),.int .i32 (c.toNat : Int)] w fun e w' => (∃ k : Int,e = .returned (.tuple #[.int .i64 k,.nilIface])) ∧ Bu w' B b (l ++ [c]) ∧ Fr (fun j => B ≤ j) w w' := by
 obtain ⟨p,v,hb,hp,hr,hBb⟩ := h;have HC : Calls prog 339 #[.pointer (some ⟨b,0,none⟩)] w fun e w' => e = .returned (.tuple #[]) ∧ Blk w' b 397 #[.pointer (some ⟨b,0,none⟩),v] ∧ w'.ownsRow B 5 1 v l.length (Lib.byteCells l) ∧ Fr (fun j => j = b) w w' := by
  rcases hp with rfl | rfl
  · refine (rX b v w hb).mono ?_;rintro e w' ⟨rfl,rfl⟩;have FS : Fr (fun j => j = b) w (w.setCell ⟨b,0,none⟩ (.pointer (some ⟨b,0,none⟩))) := (Fr.refl (fun j => j = b) w).setCell ⟨b,0,none⟩ (fun _ => rfl) _;exact ⟨rfl,hb.set_ 0 (.pointer (some ⟨b,0,none⟩)),aa hr FS (fun j hj e => ac hr hb de (by rw [hj,e])),FS⟩
  · refine (uZ b v w hb).mono ?_;rintro e w' ⟨rfl,rfl⟩;exact ⟨rfl,hb,hr,Fr.refl _ _⟩
 obtain ⟨A,cc,hv⟩ := ad hr;subst hv;have HCH := Hd HC;have HA := Hd (fun w1 h1 h2 => u3 B (.slice A l.length cc) l c w1 hc hl h1 h2);clear HC hb hp hr;generalize hrr : c.toNat = r at *;clear hrr;go_enter func308,ntmps308;go_wp2_with fail;refine HCH.mono ?_;rintro e w1 ⟨rfl,hb1,hr1,hf1⟩;have c1 := hb1.c1;have HAA := Hd (HA.out w1 (Nat.le_trans hB hf1.size) hr1);have HB1 := Hd hb1;have HR1 := Hd hr1;have HF1 := Hd (hf1.mono (T := fun j => B ≤ j) (fun j _ e => by omega));clear hb1 hr1 hf1;go_wp2_with fail;refine HAA.mono ?_;rintro e w2 ⟨v',rfl,hr2,hf2⟩;obtain ⟨A2,d2,hv2⟩ := ad hr2;subst hv2;have hb2 := HB1.fr hf2 (ac HR1.out HB1.out de);have c2 := hb2.c1;have f2 := hb2.frozen 1;have FS : Fr (fun j => j = b) w2 (w2.setCell ⟨b,1,none⟩ (.slice A2 (l.length + 1) d2)) := (Fr.refl (fun j => j = b) w2).setCell ⟨b,1,none⟩ (fun _ => rfl) _;have HBU := Hd (show Bu (w2.setCell ⟨b,1,none⟩ (.slice A2 (l.length + 1) d2)) B b (l ++ [c]) from ⟨.pointer (some ⟨b,0,none⟩),.slice A2 (l.length + 1) d2,hb2.set_ 1 (.slice A2 (l.length + 1) d2),.inr rfl,by
  rw [List.length_append];exact aa hr2 FS (fun j hj e => ac hr2 hb2 de (by rw [hj,e])),hBb⟩)
 have HF2 := Hd ((HF1.trans hf2 (fun j _ e => (HR1.lt j e).1)).trans FS (fun j _ e => by omega));have c3 := (hb2.set_ 1 (.slice A2 (l.length + 1) d2)).c1;clear hb2 hr2 hf2 FS;go_wp2_with fail;go_ret2;exact ⟨⟨_,rfl⟩,HBU,HF2⟩
theorem qk (B b : Nat) (l : List UInt8) (w : World) (hl : l ≠ []) (h : Bu w B b l) : Calls prog 306 #[.pointer (some ⟨b,0,none⟩)] w fun e w' => e = .returned (.string ⟨l.toArray⟩) ∧ Fr (fun j => B ≤ j) w w' := by
 obtain ⟨p,v,hb,hp,hr,hBb⟩ := h;have hne := ac hr hb de;have hr' : w.ownsRow B 5 1 v (Lib.byteCells l).length (Lib.byteCells l) := by rw [mP]; exact hr
 have hbu : Lib.IsBuilder 397 5 B b (Lib.byteCells l) w := by
  rcases hp with rfl | rfl
  · exact .inl ⟨hBb,v,hb,hr',hne⟩
  · exact .inr ⟨hBb,v,hb,hr',hne⟩
 refine (Tryz.Builder_String B b l w hbu hl).mono ?_;rintro e w' ⟨rfl,hbel⟩;exact ⟨rfl,⟨hbel.os,hbel.tape,hbel.output,hbel.size,fun k hk hn => hbel.block k jj⟩⟩
section
theorem ax {T : ByteArray} (h : T.data.toList.all (fun c => decide (c.toNat < 128)) = true) : kq T := by
 intro i hi;have := List.all_eq_true.1 h (T[i]'hi) (by
  show T.data[i] ∈ T.data.toList;exact Array.getElem_mem_toList (by simpa using hi))
 simpa using this
theorem cE (rs : List Int) (p : Nat) (x : UInt8) : iV rs p (txt ⟨#[x]⟩) = decide (ah rs p = (x.toNat : Int)) := by
 by_cases h : ah rs p = (x.toNat : Int)
 · rw [decide_eq_true h];refine nh fun i hi => ?_;have hi0 : i = 0 := by
    rw [dA] at hi;have : (⟨#[x]⟩ : ByteArray).size = 1 := rfl;omega
   subst hi0;exact h
 · rw [decide_eq_false h];exact dP (i := 0) (by rw [dA]; exact Nat.one_pos) h
theorem Bu.fr {x : Nat} {cs : Array Value} (h : Bu w B b l) (hx : Blk w x 204 cs) (hf : Fr (fun j => j = x) w w') : Bu w' B b l := by
 obtain ⟨p,v,hb,hp,hr,hB⟩ := h;exact ⟨p,v,hb.fr hf (fun e => Blk.ne_ hb hx de e),hp,aa hr hf (fun j hj e => ac hr hx de (by rw [hj,e])),hB⟩
theorem Bu.frF (h : Bu w B b l) (hf : Fr (fun _ => False) w w') : Bu w' B b l := by
 obtain ⟨p,v,hb,hp,hr,hB⟩ := h;exact ⟨p,v,hb.fr hf (fun e => e),hp,aa hr hf (fun j hj e => e),hB⟩
theorem Sc.old {w1 : World} {c q : Nat} {A : Option Addr} (h : Sc w1 b A c rs p) (h0 : Sc w b A c rs q) (hB : w.heap.size ≤ B) (hf : Fr (fun j => B ≤ j) w1 w') : Sc w' b A c rs p :=
 h.fr hf (fun e => by have := h0.blk.lt; omega) (fun j hj e => by have := (h0.row.lt j hj).2; omega)
def ql (rs : List Int) (p : Nat) (l : List UInt8) : Prop :=
 ah rs p = 60 ∧ (∀ i,i < l.length → ah rs (p + 1 + i) = ((l.getD i 0).toNat : Int) ∧ (l.getD i 0).toNat < 128 ∧ (l.getD i 0).toNat ≠ 10 ∧ (l.getD i 0).toNat ≠ 62 ∧ (l.getD i 0).toNat ≠ 92) ∧ ah rs (p + 1 + l.length) = 62
theorem wU (l : List UInt8) (b c p : Nat) (A : Option Addr) (rs : List Int) (w : World) (hl : l ≠ []) (hl2 : l.length ≤ 4000) (hbd : ql rs p l) (h : Sc w b A c rs p) :
    Calls prog 261 #[.pointer (some ⟨b,0,none⟩)] w (aV w b A c rs (p + l.length + 2) (.tuple #[.string ⟨l.toArray⟩,.bool true])) := by
 obtain ⟨hp0,hbody,hend⟩ := hbd;have HI := Hd (fun T q w1 hT hs h1 => tS T b c q A rs w1 hT hs h1);have HE := Hd (fun q w1 h1 => oL b c q A rs w1 h1);have HK := Hd (fun q w1 h1 => gn b c q A rs w1 h1);have HN := Hd (fun q w1 h1 => oM b c q A rs w1 h1);have I0 := Hd (tS ⟨#[60]⟩ b c p A rs w (ax de) de h);rw [cE,hp0] at I0;unfold j0 at I0;simp only [show decide ((60 : Int) = ((60 : UInt8).toNat : Int)) = true from rfl,if_true] at I0;have HS := Hd h;have HBO := Hd hbody;have HEN := Hd hend;clear h hbody hend hp0;go_enter func261,ntmps261;go_wp2_with fail;refine I0.mono ?_;rintro e w1 ⟨rfl,hs1,hf1⟩;rw [show p + (⟨#[60]⟩ : ByteArray).size = p + 1 from rfl] at hs1;have HS1 := Hd hs1;have HF1 := Hd hf1;have hsz1 := hf1.size;have BU0 := Hd (show Bu (w1.alloc (.cells #[.pointer none,.slice none 0 0] 397)) w1.heap.size w1.heap.size [] from ⟨_,_,Blk.new _ _ _,.inl rfl,World.ownsRow_nil _ _ _ _,Nat.le_refl _⟩);clear hs1 hf1;go_wp2_with fail
 go_loopg [14] (l.length) (fun g nv wr => ∃ i : Nat,l.length ≤ i + g ∧ i ≤ l.length ∧ Sc wr b A c rs (p + 1 + i) ∧ Bu wr w1.heap.size w1.heap.size (l.take i) ∧ Fr (fun j => j = b ∨ w1.heap.size ≤ j) w wr ∧ w1.heap.size < wr.heap.size)
 case atStart => exact ⟨0,by omega,Nat.zero_le _,HS1.frF ((Fr.refl _ _).alloc _),BU0,(HF1.mono (fun _ _ e => .inl e)).alloc _,by simp⟩
 case round =>
  obtain ⟨i,hg,hi,hs,hbu,hfr,hszw⟩ := hrel;have HSW := Hd hs;have HBU := Hd hbu;have HFR := Hd hfr;have HEE := Hd (HE (p + 1 + i) wr hs);have HKK := Hd (fun w1 h1 => HK (p + 1 + i) w1 h1);clear hs hbu hfr;by_cases hil : i < l.length
  · obtain ⟨hpk,hc1,hc2,hc3,hc4⟩ := HBO.out i hil;have hplt := iq (rs := rs) (p := p + 1 + i) (by rw [hpk]; omega);rw [FX] at HEE;rw [hpk] at HKK;have I1 := Hd (fun w1 h1 => HI ⟨#[62]⟩ (p + 1 + i) w1 (ax de) de h1);have I2 := Hd (fun w1 h1 => HI ⟨#[92]⟩ (p + 1 + i) w1 (ax de) de h1);rw [cE,hpk,decide_eq_false (by show ¬ ((l.getD i 0).toNat : Int) = 62; omega)] at I1;rw [cE,hpk,decide_eq_false (by show ¬ ((l.getD i 0).toNat : Int) = 92; omega)] at I2;have HNN := Hd (fun w1 h1 => HN (p + 1 + i) w1 h1);unfold lu at HNN;rw [if_pos hplt,hpk] at HNN;have HW := Hd (fun w2 hB hu => u4 w1.heap.size w1.heap.size (l.take i) (l.getD i 0) w2 hc1 (by rw [List.length_take]; omega) hB hu);have HST := Hd (show l.take i ++ [l.getD i 0] = l.take (i + 1) by rw [List.take_add_one,List.getD_eq_getElem?_getD,List.getElem?_eq_getElem hil]; rfl);rw [HST.out] at HW;unfold j0 at I1 I2;simp only [Bool.false_eq_true,if_false] at I1 I2;generalize (l.getD i 0).toNat = r at *;have hr10 : ((r : Int) == 10) = false := by simp; omega
    go_wp2_with fail;refine HEE.mono ?_;rintro e w2 ⟨rfl,hf2⟩;have HS2 := Hd (HSW.frF hf2);have HB2 := Hd (HBU.frF hf2);have HF2 := Hd (HFR.trans hf2 uu);have hz2 := hf2.size;clear hf2;go_wp2_with fail;refine (HKK _ HS2).mono ?_;rintro e w3 ⟨rfl,hf3⟩;have HS3 := Hd (HS2.frF hf3);have HB3 := Hd (HB2.frF hf3);have HF3 := Hd (HF2.trans hf3 uu);have hz3 := hf3.size;clear hf3;go_wp2_with fail;refine (I1 _ HS3).mono ?_;rintro e w4 ⟨rfl,hs4,hf4⟩;have HS4 := Hd hs4;have HB4 := Hd (HB3.fr HS3.blk hf4);have HF4 := Hd (HF3.trans hf4 (fun _ _ h => .inl h));have hz4 := hf4.size;clear hf4 hs4;go_wp2_with fail;refine (I2 _ HS4).mono ?_;rintro e w5 ⟨rfl,hs5,hf5⟩;have HS5 := Hd hs5;have HB5 := Hd (HB4.fr HS4.blk hf5);have HF5 := Hd (HF4.trans hf5 (fun _ _ h => .inl h));have hz5 := hf5.size;clear hf5 hs5;go_wp2_with fail;refine (HNN _ HS5).mono ?_;rintro e w6 ⟨rfl,hs6,hf6⟩;have HS6 := Hd hs6;have HB6 := Hd (HB5.fr HS5.blk hf6);have HF6 := Hd (HF5.trans hf6 (fun _ _ h => .inl h));have hz6 := hf6.size;clear hf6 hs6;go_wp2_with fail;refine (HW _ jj HB6).mono ?_;rintro e w7 ⟨⟨kk,rfl⟩,hb7,hf7⟩;have HS7 := Hd (HS6.old HS.out hsz1 hf7);have HB7 := Hd hb7;have HF7 := Hd (HF6.trans hf7 (fun _ _ h => .inr h));have hz7 := hf7.size;clear hf7 hb7;go_wp2_with fail
    go_roundg (l.length - (i + 1))
    case measure => omega
    case rel => exact ⟨i + 1,by omega,by omega,HS7,HB7,HF7,by omega⟩
  · have hie : i = l.length := jj;subst hie;have hpk := HEN.out;have hplt := iq (rs := rs) (p := p + 1 + l.length) (by rw [hpk]; omega);rw [FX] at HEE;rw [hpk] at HKK;have I1 := Hd (fun w1 h1 => HI ⟨#[62]⟩ (p + 1 + l.length) w1 (ax de) de h1);rw [cE,hpk] at I1;unfold j0 at I1;simp only [show decide ((62 : Int) = ((62 : UInt8).toNat : Int)) = true from rfl,if_true] at I1;have HST := Hd (fun w2 hu => qk w1.heap.size w1.heap.size l w2 hl hu);rw [List.take_length] at HBU;go_wp2_with fail;refine HEE.mono ?_;rintro e w2 ⟨rfl,hf2⟩;have HS2 := Hd (HSW.frF hf2);have HB2 := Hd (HBU.frF hf2);have HF2 := Hd (HFR.trans hf2 uu);clear hf2;go_wp2_with fail;refine (HKK _ HS2).mono ?_;rintro e w3 ⟨rfl,hf3⟩;have HS3 := Hd (HS2.frF hf3);have HB3 := Hd (HB2.frF hf3);have HF3 := Hd (HF2.trans hf3 uu);clear hf3;go_wp2_with fail;refine (I1 _ HS3).mono ?_;rintro e w4 ⟨rfl,hs4,hf4⟩;have HS4 := Hd hs4;have HB4 := Hd (HB3.fr HS3.blk hf4);have HF4 := Hd (HF3.trans hf4 (fun _ _ h => .inl h));clear hf4 hs4;go_wp2_with fail;refine (HST _ HB4).mono ?_;rintro e w5 ⟨rfl,hf5⟩;have HS5 := Hd (HS4.old HS.out hsz1 hf5);have HF5 := Hd (HF4.trans hf5 (fun _ _ h => .inr h));clear hf5;go_wp2_with fail;go_ret2;refine ⟨rfl,?_,HF5.mono (fun j hj h => h.elim id (fun h => absurd h jj))⟩;have hs := HS5.out;rw [show p + 1 + l.length + (⟨#[62]⟩ : ByteArray).size = p + l.length + 2 by show p + 1 + l.length + 1 = _; omega] at hs;exact hs
theorem wV (l : List UInt8) (b c p : Nat) (A : Option Addr) (rs : List Int) (w : World) (hl : l ≠ []) (hl2 : l.length ≤ 4000) (hbd : ql rs p l) (h : Sc w b A c rs p) :
    Calls prog 208 #[.pointer (some ⟨b,0,none⟩)] w (aV w b A c rs (p + l.length + 2) (.tuple #[(Tm.iri ⟨l.toArray⟩).val,.bool true])) := by
 have HK := Hd (gn b c p A rs w h);rw [hbd.1] at HK;have HN := Hd (fun w1 h1 => wU l b c p A rs w1 hl hl2 hbd h1);have HS := Hd h;unfold Tm.val;generalize (⟨l.toArray⟩ : ByteArray) = t at *;generalize p + l.length + 2 = q at *;clear h hbd;go_enter func208,ntmps208;go_wp2_with fail;refine HK.mono ?_;rintro e w1 ⟨rfl,hf1⟩;have HN1 := Hd (HN.out w1 (HS.frF hf1));go_wp2_with fail;refine HN1.mono ?_;rintro e w2 ⟨rfl,hs2,hf2⟩;go_wp2_with fail;go_ret2;exact ⟨rfl,hs2,(hf1.mono uu).trans' hf2⟩
theorem wW (l : List UInt8) (b c p : Nat) (A : Option Addr) (rs : List Int) (w : World) (hl : l ≠ []) (hl2 : l.length ≤ 4000) (hgd : (Tm.iri ⟨l.toArray⟩).good = true) (hbd : ql rs p l) (h : Sc w b A c rs p) :
    Calls prog 148 #[.pointer (some ⟨b,0,none⟩)] w (aV w b A c rs (p + l.length + 2) (.tuple #[(Tm.iri ⟨l.toArray⟩).val,.int .i64 ((p + l.length + 2 : Nat) : Int),.int .i64 0])) := by
 have HP := Hd (fN b c p A rs w h);have HF := Hd (wV l b c p A rs w hl hl2 hbd h);have HP2 := Hd (fun q w1 h1 => fN b c q A rs w1 h1);have HG := Hd (fun w1 => eC (Tm.iri ⟨l.toArray⟩) w1 (show (⟨l.toArray⟩ : ByteArray).size ≤ 4096 by show l.toArray.size ≤ 4096; simp; omega));rw [hgd] at HG;unfold Tm.val at *;generalize (⟨l.toArray⟩ : ByteArray) = t at *;generalize p + l.length + 2 = q at *;clear h hbd hgd;go_enter func148,ntmps148;go_wp2_with fail;refine HP.mono ?_;rintro e w1 ⟨rfl,rfl⟩;go_wp2_with fail;refine HF.mono ?_;rintro e w2 ⟨rfl,hs2,hf2⟩;have HPP := Hd (HP2.out q w2 hs2);go_wp2_with fail;refine HPP.mono ?_;rintro e w3 ⟨rfl,rfl⟩;go_wp2_with fail;refine (HG _).mono ?_;rintro e w4 ⟨rfl,hf4⟩;go_wp2_with fail;go_ret3;exact ⟨rfl,hs2.frF hf4,hf2.trans hf4 uu⟩
theorem wX (l : List UInt8) (b c p q : Nat) (A : Option Addr) (rs : List Int) (w : World) (hl : l ≠ []) (hl2 : l.length ≤ 4000) (hgd : (Tm.iri ⟨l.toArray⟩).good = true) (hq : skip rs [0] p = q) (hbd : ql rs q l) (h : Sc w b A c rs p) :
    Calls prog 92 #[.agg #[.pointer (some ⟨b,0,none⟩)]] w (aV w b A c rs (q + l.length + 2) ((Tm.iri ⟨l.toArray⟩).val)) := by
 have hf := Fr.a1 w (.cells #[.pointer (some ⟨b,0,none⟩)] 62);have HB := Hd (dn b c p A rs _ (h.frF hf));rw [hq] at HB;have HR := Hd (fun w1 h1 => wW l b c q A rs w1 hl hl2 hgd hbd h1);have HX := Hd (Blk.new w 62 #[.pointer (some ⟨b,0,none⟩)]);have HF := Hd hf;have hbl := h.blk.lt;unfold Tm.val at *;generalize (⟨l.toArray⟩ : ByteArray) = t at *;generalize q + l.length + 2 = q2 at *;clear h hf hgd hbd hq;go_enter func92,ntmps92;go_wp2_with fail;refine HB.mono ?_;rintro e w1 ⟨⟨k,rfl⟩,hs1,hf1⟩;have hx1 := aE HX.out hbl hf1;have x1 := hx1.c0;have HRR := Hd (HR.out w1 hs1);have HF1 := Hd ((HF.mono (T := fun j => j = b) uu).trans' hf1);clear hx1 hs1 hf1;go_wp2_with fail;refine HRR.mono ?_;rintro e w2 ⟨rfl,hs2,hf2⟩;go_wp2_with fail;go_ret;exact ⟨rfl,hs2,HF1.trans' hf2⟩
theorem EI (x : Value) (w : World) : (Instr.typeAssert (.iface 207 x) 75 207 false).run prog w = .ok x w := kr
theorem CX (t : ByteArray) (w : World) : (Instr.field 207 (.agg #[.string t]) 0).run prog w = .ok (.string t) w := kr
attribute [local go_sem] EI CX
theorem wY (l : List UInt8) (b c p q : Nat) (A : Option Addr) (rs : List Int) (w : World) (hl : l ≠ []) (hl2 : l.length ≤ 4000) (hgd : (Tm.iri ⟨l.toArray⟩).good = true) (hq : skip rs [0] p = q) (hq2 : skip rs [0] q = q) (hbd : ql rs q l) (h : Sc w b A c rs p) :
    Calls prog 47 #[.agg #[.pointer (some ⟨b,0,none⟩)]] w (aV w b A c rs (q + l.length + 2) (.string ⟨l.toArray⟩)) := by
 have hf := Fr.a1 w (.cells #[.pointer (some ⟨b,0,none⟩)] 62);have HN := Hd (cD b c p A rs _ (h.frF hf));rw [hq,hbd.1] at HN;have HT := Hd (fun w1 h1 => wX l b c q q A rs w1 hl hl2 hgd hq2 hbd h1);have HX := Hd (Blk.new w 62 #[.pointer (some ⟨b,0,none⟩)]);have HF := Hd hf;have hbl := h.blk.lt;unfold Tm.val at *;generalize (⟨l.toArray⟩ : ByteArray) = t at *;generalize q + l.length + 2 = q2 at *;clear h hf hgd hbd hq hq2;go_enter func47,ntmps47;go_wp2_with fail;refine HN.mono ?_;rintro e w1 ⟨rfl,hs1,hf1⟩;have hx1 := aE HX.out hbl hf1;have x1 := hx1.c0;have HTT := Hd (HT.out w1 hs1);have HF1 := Hd ((HF.mono (T := fun j => j = b) uu).trans' hf1);clear hx1 hs1 hf1;go_wp2_with fail;refine HTT.mono ?_;rintro e w2 ⟨rfl,hs2,hf2⟩;go_wp2_with fail;go_ret;exact ⟨rfl,hs2,HF1.trans' hf2⟩
theorem u5 (r : Int) (w : World) : (convert 21 9 (.int .i32 r)).run prog w = .ok (.string (Utf8.encode r)) w := by
 simp [convert,run_underlying underlying21,run_underlying underlying9];rfl
theorem oO (c : UInt8) (h : c.toNat < 128) : Utf8.encode (c.toNat : Int) = ⟨#[c]⟩ := by
 unfold Utf8.encode;have hv : Utf8.valid (c.toNat : Int) = true := by
  unfold Utf8.valid;simp;omega
 simp [hv,h]
theorem wZ (l : List UInt8) (i : Nat) (c : UInt8) (h : l.take (i + 1) = l.take i ++ [c]) : (⟨(l.take i).toArray⟩ ++ ⟨#[c]⟩ : ByteArray) = ⟨(l.take (i + 1)).toArray⟩ := by
 rw [h];apply ByteArray.ext;rw [ByteArray.data_append];simp
def Name (rs : List Int) (s : Nat) (l : List UInt8) : Prop :=
 ah rs s = 63 ∧ cT (ah rs (s + 1)) = 1 ∧ (∀ i,i < l.length → ah rs (s + 1 + i) = ((l.getD i 0).toNat : Int) ∧ (l.getD i 0).toNat < 128 ∧ cZ ((l.getD i 0).toNat : Int) = true) ∧ cZ (ah rs (s + 1 + l.length)) = false
theorem ku (l : List UInt8) (b c p s : Nat) (A : Option Addr) (rs : List Int) (w : World) (hl2 : l.length ≤ 4000) (hs : skip rs [0] p = s) (hnm : Name rs s l) (h : Sc w b A c rs p) :
    Calls prog 98 #[.agg #[.pointer (some ⟨b,0,none⟩)]] w (aV w b A c rs (s + 1 + l.length) (.string ⟨l.toArray⟩)) := by
 obtain ⟨h63,hcl,hbody,hend⟩ := hnm;have hf := Fr.a1 w (.cells #[.pointer (some ⟨b,0,none⟩)] 62);have HM := Hd (jo ⟨#[63]⟩ b c p (s + 1) A rs _ (ax de) de (by unfold aj; rw [hs,cE,h63]; rfl) (by unfold an aj; rw [hs,cE,h63]; rfl) (h.frF hf));have HK := Hd (fun q w1 h1 => gn b c q A rs w1 h1);have HC := Hd (fun w1 => kK (ah rs (s + 1)) w1 (oN h (s + 1)));rw [hcl] at HC;have HL := Hd (fun q w1 => lw (ah rs q) w1 (oN h q));have HN := Hd (fun q w1 h1 => oM b c q A rs w1 h1);have HX := Hd (Blk.new w 62 #[.pointer (some ⟨b,0,none⟩)]);have HF := Hd hf;have HBO := Hd hbody;have HEN := Hd hend;have hbl := h.blk.lt;clear h hf hbody hend hcl hs h63;go_enter func98,ntmps98;go_wp2_with fail;refine HM.mono ?_;rintro e w1 ⟨rfl,hs1,hf1⟩;have hx1 := aE HX.out hbl hf1;have x1 := hx1.c0;have HKK := Hd (HK (s + 1) w1 hs1);have HX1 := Hd hx1;have HS1 := Hd hs1;have HF1 := Hd ((HF.mono (T := fun j => j = b) uu).trans' hf1);generalize ah rs (s + 1) = pk at *;clear hx1 hs1 hf1;go_wp2_with fail;refine HKK.mono ?_;rintro e w2 ⟨rfl,hf2⟩;go_wp2_with fail;refine (HC _).mono ?_;rintro e w3 ⟨rfl,rfl⟩;have HX2 := Hd (HX1.fr hf2 id);have HS2 := Hd (HS1.frF hf2);have HF2 := Hd (HF1.trans hf2 uu);clear hf2;go_wp2_with fail
 go_loopg [3] (l.length) (fun g nv wr => ∃ i : Nat,nv = .string ⟨(l.take i).toArray⟩ ∧ l.length ≤ i + g ∧ i ≤ l.length ∧ Sc wr b A c rs (s + 1 + i) ∧ Blk wr w.heap.size 62 #[.pointer (some ⟨b,0,none⟩)] ∧ Fr (fun j => j = b) w wr)
 case atStart => exact ⟨0,rfl,by omega,Nat.zero_le _,HS2,HX2,HF2⟩
 case round =>
  obtain ⟨i,rfl,hg,hi,hs,hx,hfr⟩ := hrel;have HKI := Hd (HK (s + 1 + i) wr hs);have HLI := Hd (fun w1 => HL (s + 1 + i) w1);have HSI := Hd hs;have HXI := Hd hx;have HFI := Hd hfr;have x0 := hx.c0;clear hs hx hfr x1;by_cases hil : i < l.length
  · obtain ⟨hpk,hc1,hlt⟩ := HBO.out i hil;have hplt := iq (rs := rs) (p := s + 1 + i) (by rw [hpk]; omega);have HNI := Hd (fun w1 h1 => HN (s + 1 + i) w1 h1);unfold lu at HNI;rw [if_pos hplt,hpk] at HNI;rw [hpk] at HKI HLI;rw [hlt] at HLI;have hcv := u5 ((l.getD i 0).toNat : Int);rw [oO _ hc1] at hcv;have HTK := Hd (show l.take (i + 1) = l.take i ++ [l.getD i 0] by rw [List.take_add_one,List.getD_eq_getElem?_getD,List.getElem?_eq_getElem hil]; rfl);generalize l.getD i 0 = cu at *;generalize hrr : cu.toNat = r at *;clear hrr;go_wp2_with fail;refine HKI.mono ?_;rintro e w4 ⟨rfl,hf4⟩;have hx4 := HXI.fr hf4 id;have x4 := hx4.c0;have HX4 := Hd hx4;have HS4 := Hd (HSI.frF hf4);have HF4 := Hd (HFI.trans hf4 uu);clear hf4 hx4 x0;go_wp2_with fail;refine (HLI _).mono ?_;rintro e w5 ⟨rfl,rfl⟩;have HNN := Hd (HNI _ HS4);go_wp2_with fail;refine HNN.mono ?_;rintro e w6 ⟨rfl,hs6,hf6⟩;have HS6 := Hd hs6;have HX6 := Hd (aE HX4.out hbl hf6);have HF6 := Hd (HF4.trans' hf6);clear hs6 hf6;go_wp2_with fail
    go_roundg (l.length - (i + 1))
    case measure => omega
    case rel => exact ⟨i + 1,by rw [wZ l i cu HTK.out],by omega,by omega,HS6,HX6,HF6⟩
  · have hie : i = l.length := jj;subst hie;rw [HEN.out] at HLI;rw [List.take_length];generalize ah rs (s + 1 + l.length) = pe at *;go_wp2_with fail;refine HKI.mono ?_;rintro e w4 ⟨rfl,hf4⟩;go_wp2_with fail;refine (HLI _).mono ?_;rintro e w5 ⟨rfl,rfl⟩;go_wp2_with fail;go_ret;exact ⟨rfl,HSI.frF hf4,HFI.trans hf4 uu⟩
def CY (l : List UInt8) : Value := .agg #[.string ⟨l.toArray⟩,.string ⟨#[]⟩,.string ⟨#[]⟩]
theorem kw (l : List UInt8) (b c p s : Nat) (A : Option Addr) (rs : List Int) (w : World) (hl2 : l.length ≤ 4000) (hs : skip rs [0] p = s) (hs2 : skip rs [0] s = s) (hnm : Name rs s l) (h : Sc w b A c rs p) :
    Calls prog 49 #[.agg #[.pointer (some ⟨b,0,none⟩)]] w (aV w b A c rs (s + 1 + l.length) (CY l)) := by
 have hf := Fr.a2 w (.cells #[.pointer (some ⟨b,0,none⟩)] 62) (.cells #[.string ⟨#[]⟩,.string ⟨#[]⟩,.string ⟨#[]⟩] 130);have HM := Hd (b8 ⟨#[40]⟩ b c p A rs _ (ax de) de (h.frF hf));have e1 : aj rs p ⟨#[40]⟩ = false := by unfold aj; rw [hs,cE,hnm.1]; rfl
 have e2 : an rs p ⟨#[40]⟩ = s := by unfold an; rw [e1,hs]; simp
 rw [e1,e2] at HM;have HV := Hd (fun w1 h1 => ku l b c s s A rs w1 hl2 hs2 hnm h1);have hx := (Blk.new w 62 #[.pointer (some ⟨b,0,none⟩)]).alloc (.cells #[.string ⟨#[]⟩,.string ⟨#[]⟩,.string ⟨#[]⟩] 130);have hz := al1 w (.cells #[.pointer (some ⟨b,0,none⟩)] 62);have hy := Blk.new (w.alloc (.cells #[.pointer (some ⟨b,0,none⟩)] 62)) 130 #[.string ⟨#[]⟩,.string ⟨#[]⟩,.string ⟨#[]⟩];rw [hz] at hy;have HX := Hd hx;have HY := Hd hy;have HF := Hd hf;have hbl := h.blk.lt;unfold CY;generalize (⟨l.toArray⟩ : ByteArray) = t at *;generalize s + 1 + l.length = q at *;clear h hf hx hy hz e1 e2 hs hs2 hnm;go_enter func49,ntmps49;go_wp2_with fail;refine HM.mono ?_;rintro e w1 ⟨rfl,hs1,hf1⟩;have hx1 := aE HX.out hbl hf1;have x1 := hx1.c0;have HVV := Hd (HV.out w1 hs1);have HY1 := Hd (HY.fr hf1 (by omega));have HF1 := Hd ((HF.mono (T := fun j => j = b) uu).trans' hf1);clear hx1 hs1 hf1;go_wp2_with fail;refine HVV.mono ?_;rintro e w2 ⟨rfl,hs2,hf2⟩;have hy2 := HY1.fr hf2 (by omega);have hl2 := hy2.lt;have a0 := hy2.cell 0;have a1 := hy2.cell 1;have a2 := hy2.cell 2;have f0 := hy2.frozen 0;have hy3 := hy2.set_ 0 (.string t);have a3 := hy3.cell 1;have a4 := hy3.cell 2;have f3 := hy3.frozen 1;have hy4 := hy3.set_ 1 (.string ⟨#[]⟩);have a5 := hy4.cell 2;have f5 := hy4.frozen 2;have hy5 := hy4.set_ 2 (.string ⟨#[]⟩);simp only [List.setIfInBounds_toArray,List.set_cons_zero,List.set_cons_succ,List.getElem?_toArray,List.getElem?_cons_zero,List.getElem?_cons_succ] at a0 a1 a2 a3 a4 a5 hy5;have FS : Fr (fun j => j = w.heap.size + 1) w2 (((w2.setCell ⟨w.heap.size + 1,0,none⟩ (.string t)).setCell ⟨w.heap.size + 1,1,none⟩ (.string ⟨#[]⟩)).setCell ⟨w.heap.size + 1,2,none⟩ (.string ⟨#[]⟩)) := (((Fr.refl (fun j => j = w.heap.size + 1) w2).setCell ⟨w.heap.size + 1,0,none⟩ (fun _ => rfl) _).setCell ⟨w.heap.size + 1,1,none⟩ (fun _ => rfl) _).setCell ⟨w.heap.size + 1,2,none⟩ (fun _ => rfl) _;have HY5 := Hd hy5;have HS5 := Hd (hs2.fr FS (by omega) (fun j hj e => ac hs2.row hy2 de (by rw [hj,e])));have HF5 := Hd (((HF1.trans' hf2).trans (T := fun j => j = b ∨ j = w.heap.size + 1) (FS.mono (fun _ _ h => .inr h)) (fun j hj h => h.elim id (fun h => absurd hj jj))));clear hy2 hy3 hy4 hy5 FS hs2 hf2;go_wp2_with fail;exact bodyPost_ret (v := .agg #[.string t,.string ⟨#[]⟩,.string ⟨#[]⟩]) (results_cell_row rfl _ _ (w.heap.size + 1) 130 _ (0,0) _ rfl HY5.out underlying130 rfl kr) rfl ⟨rfl,HS5,HF5⟩
theorem lB {t : Nat} (h : Blk w g t cs.toArray) : w.rangeAt g 0 cs := by
 intro j v hj;rw [Nat.zero_add,h.cell j,List.getElem?_toArray];exact hj
theorem xd : (prog.info? 180).map (fun i => (i.zero,i.size,i.bytes)) = some (some (.agg #[.int .i64 0,.string ⟨#[]⟩,.nilIface,.string ⟨#[]⟩,.nilIface,.string ⟨#[]⟩,.nilIface,.int .i64 0,.string ⟨#[]⟩,.slice none 0 0,.string ⟨#[]⟩,.string ⟨#[]⟩,.nilIface,.slice none 0 0,.string ⟨#[]⟩,.string ⟨#[]⟩,.slice none 0 0]),17,280) := kr
theorem lC (g : Nat) (t : TypeId) : ∀ (vs pre old : List Value) (w : World),Blk w g t (pre ++ old).toArray → vs.length = old.length → Blk (w.setCells g pre.length vs) g t (pre ++ vs).toArray ∧ Fr (fun j => j = g) w (w.setCells g pre.length vs)
 | [],pre,old,w,h,hl => by
  have : old = [] := List.eq_nil_of_length_eq_zero (by simpa using hl.symm);subst this;exact ⟨h,Fr.refl _ _⟩
 | v :: vs,pre,[],w,h,hl => by simp at hl
 | v :: vs,pre,x :: old,w,h,hl => by
  have h1 := h.set_ pre.length v;have e1 : (pre ++ x :: old).toArray.setIfInBounds pre.length v = ((pre ++ [v]) ++ old).toArray := by
   rw [List.setIfInBounds_toArray];congr 1;rw [List.set_append_right _ _ (Nat.le_refl _)];simp
  rw [e1] at h1;have ih := lC g t vs (pre ++ [v]) old _ h1 (by simpa using hl);have e2 : (pre ++ [v]).length = pre.length + 1 := by simp
  rw [e2] at ih;have e3 : pre ++ v :: vs = (pre ++ [v]) ++ vs := by simp
  rw [e3,World.setCells];exact ⟨ih.1,((Fr.refl (fun j => j = g) w).setCell ⟨g,pre.length,none⟩ (fun _ => rfl) v).trans' ih.2⟩
theorem Blk.setAll {old vs : List Value} (h : Blk w g t old.toArray) (hl : vs.length = old.length) : Blk (w.setCells g 0 vs) g t vs.toArray ∧ Fr (fun j => j = g) w (w.setCells g 0 vs) :=
 lC g t vs [] old w h hl
theorem Blk.there (h : Blk w g t cs.toArray) {n : Nat} (hn : n = cs.length) : w.there g 0 n := fun j hj => by
 subst hn;refine ⟨?_,h.frozen (0 + j)⟩;rw [h.cell (0 + j),Nat.zero_add,List.getElem?_toArray,List.getElem?_eq_getElem hj];rfl
theorem j1 (h : cT (ah rs p) ≠ 0) : skip rs [0] p = p := by
 refine bo fun hc => h ?_;unfold ah;rw [if_pos hc.1];have := hc.2;simpa using this
theorem ni (h : ah rs p = 123) : skip rs [0] p = p := j1 (by rw [h]; decide)
theorem qm {x : UInt8} (hs : skip rs [0] p = p) (hx : ah rs p = (x.toNat : Int)) : aj rs p ⟨#[x]⟩ = true ∧ an rs p ⟨#[x]⟩ = p + 1 := by
 have h1 : aj rs p ⟨#[x]⟩ = true := by
  unfold aj;rw [hs,cE,decide_eq_true hx]
 refine ⟨h1,?_⟩;unfold an;rw [h1,hs];simp;rfl
end
def aJ (pf : Nat → Nat × Bool) (m : Nat) (xs : List Int) : List Int := (List.range m).map fun k => mO (pf k).1 (pf k).2 xs
theorem kx (pf : Nat → Nat × Bool) (m : Nat) (xs : List Int) : (aJ pf m xs).length = m := by unfold aJ; simp
theorem fc (pf : Nat → Nat × Bool) (m : Nat) (xs : List Int) {k : Nat} (h : k < m) : (aJ pf m xs).getD k 0 = mO (pf k).1 (pf k).2 xs := by
 unfold aJ;rw [List.getD_eq_getElem?_getD,List.getElem?_map,List.getElem?_range h];rfl
theorem oP (p : Nat) (f : Bool) (xs : List Int) (h : ∀ k,k < xs.length → -1 ≤ xs.getD k 0) (hp : f = true → p < xs.length) : -1 ≤ mO p f xs := by
 unfold mO;cases f with
 | true => exact h p (hp rfl)
 | false => simp
theorem tU (v : ByteArray) (ab rb tm tvc n rc xc B B' p : Nat) (TV AR XA : Option Addr) (ts : List ByteArray) (xs : List Int) (fnd : Bool) (w : World) (ht : tm ≤ 4096) (hv : gR ts v p fnd) (hx : xs.length = tm)
    (hab : Blk w ab 47 #[.slice TV tm tvc,.slice AR n rc]) (hrb : Blk w rb 99 #[.slice XA tm xc]) (htv : w.ownsRow B 9 1 (.slice TV tm tvc) tm (ts.map .string)) (hxs : ap w B' (.slice XA tm xc) xs) :
    Calls prog 86 #[.string v,.pointer (some ⟨ab,0,none⟩),.pointer (some ⟨rb,0,none⟩)] w fun e w' => e = .returned (.int .i64 (mO p fnd xs)) ∧ Fr (fun _ => False) w w' := by
 have a0 := hab.c0;have a1 := hab.c1;have r0 := hrb.c0;have HV := Hd (ip tm tvc B B' p TV (.slice AR n rc) ts v fnd (.slice XA tm xc) xs w ht hv hx htv hxs);generalize mO p fnd xs = y at *;clear hab hrb htv hxs hv hx;go_enter func86,ntmps86;go_wp2_with fail;refine HV.mono ?_;rintro e w1 ⟨rfl,hf1⟩;go_wp2_with fail;go_ret;exact ⟨rfl,hf1⟩
theorem nj : ∀ args w,(callFunc 86 args).run prog w = .ok (.enter 86 args) w := fun args w => by kernel_rfl
def CZ (w : World) (B tb m vc : Nat) (V : Option Addr) (rows : List (List Int)) (e : Ending) (w' : World) : Prop :=
 e = .returned (.tuple #[]) ∧ ∃ vr vals,Blk w' tb 47 #[.slice V m vc,vr] ∧ ak w' B vr vals rows ∧ Fr (fun j => j = tb) w w'
structure Cq (w1 wr : World) (n0 B tb m vc : Nat) (V : Option Addr) (vr : Value) (vals : List Value) (rows : List (List Int)) : Prop where
 tab : Blk wr tb 47 #[.slice V m vc,vr]
 rows : ak wr B vr vals rows
 new : ∀ j,vr.ownBlock = some j → n0 ≤ j
 fr : Fr (fun j => j = tb ∨ n0 ≤ j) w1 wr
theorem C0 (pf : Nat → Nat × Bool) (tb m vc tm tvc Ba Bt B : Nat) (V TV : Option Addr) (ts ss : List ByteArray) (avr : Value) (avals : List Value) (arows : List (List Int)) (w : World) (hm : m ≤ 4096) (ht : tm ≤ 4096) (hss : ss.length = m) (htl : ts.length = tm)
    (hpf : ∀ k,k < m → gR ts (ss.getD k ByteArray.empty) (pf k).1 (pf k).2) (hpl : ∀ k,k < m → (pf k).2 = true → (pf k).1 < tm) (hlen : ∀ i,i < arows.length → (arows.getD i []).length = tm) (hlo : ∀ i,i < arows.length → ∀ k,k < tm → -1 ≤ (arows.getD i []).getD k 0)
    (hn : arows.length ≤ 4096) (hB : B ≤ w.heap.size) (htb : Blk w tb 47 #[.slice V m vc,.slice none 0 0]) (hv : w.ownsRow B 9 1 (.slice V m vc) m (ss.map .string)) (htv : w.ownsRow Bt 9 1 (.slice TV tm tvc) tm (ts.map .string)) (har : ak w Ba avr avals arows) :
    Calls prog 35 #[.pointer (some ⟨tb,0,none⟩),.agg #[.slice TV tm tvc,avr]] w (CZ w B tb m vc V (arows.map (aJ pf m))) := by
 obtain ⟨AR,cR,hvr⟩ := ad har.own;subst hvr;have hf0 := Fr.a1 w (.cells #[.slice TV tm tvc,.slice AR arows.length cR] 47);have HA := Hd (Blk.new w 47 #[.slice TV tm tvc,.slice AR arows.length cR]);have HF0 := Hd hf0;have HT := Hd (htb.fr hf0 id);have HV := Hd (aa hv hf0 ii);have HTV := Hd (aa htv hf0 ii);have HAR := Hd (har.frF hf0);have htl2 := htb.lt;have HVL := Hd (fun j h => (hv.lt j h).2);have HTL := Hd (fun j h => (htv.lt j h).2);have HRL := Hd (fun j h => (har.own.lt j h).2);have HEL := Hd (fun i hi j h => ((har.each i hi).lt j h).2);have HPF := Hd hpf;have HPL := Hd hpl;have HLEN := Hd hlen;have HLO := Hd hlo;clear htb hv htv har hf0 hpf hpl hlen hlo;go_enter func35,ntmps35;go_wp2_with fail;have hsz1 : w.heap.size + 1 = (w.alloc (.cells #[.slice TV tm tvc,.slice AR arows.length cR] 47)).heap.size := by simp
 have HSZ := Hd hsz1;clear hsz1;generalize w.alloc (.cells #[.slice TV tm tvc,.slice AR arows.length cR] 47) = w1 at *
 go_loopw [9] (fun iv wr => ∃ (k : Nat) (vr : Value) (vals : List Value),iv = .int .i64 (k : Int) ∧ k ≤ arows.length ∧ Cq w1 wr (w.heap.size + 1) B tb m vc V vr vals ((arows.take k).map (aJ pf m))) (fun iv _ => arows.length - (intOf iv).toNat)
 case atStart => exact ⟨0,_,[],rfl,Nat.zero_le _,⟨HT,⟨World.ownsRow_nil _ _ _ _,fun i hi => absurd hi (by simp)⟩,(fun j h => by cases h),Fr.refl _ _⟩⟩
 case round =>
  obtain ⟨k,vr,vals,rfl,hk,hi⟩ := hrel;have HI := Hd hi;have hne : ∀ j,j < w.heap.size → j ≠ tb → ¬ (j = tb ∨ w.heap.size + 1 ≤ j) := fun j h1 h2 h => h.elim h2 (fun h => by omega);have hsz := hi.fr.size;have hS := HSZ.out;have hblk := HA.fr hi.fr (fun h => by rcases h with h | h <;> omega);have hvN : ∀ j,(Value.slice V m vc).ownBlock = some j → j ≠ tb := fun j hj e => ac HV.out HT.out de (by rw [← e]; exact hj);have htN : ∀ j,(Value.slice TV tm tvc).ownBlock = some j → j ≠ tb := fun j hj e => ac HTV.out HT.out de (by rw [← e]; exact hj);have hrN : ∀ j,(Value.slice AR arows.length cR).ownBlock = some j → j ≠ tb := fun j hj e => ac HAR.own HT.out de (by rw [← e]; exact hj);have heN : ∀ i,i < arows.length → ∀ j,(avals.getD i undef).ownBlock = some j → j ≠ tb := fun i hi j hj e => ac (HAR.each i hi) HT.out de (by rw [← e]; exact hj);have hv2 := aa HV.out hi.fr (fun j hj => hne j (HVL.out j hj) (hvN j hj));have htv2 := aa HTV.out hi.fr (fun j hj => hne j (HTL.out j hj) (htN j hj));have har2 := HAR.fr hi.fr (fun j hj => hne j (HRL.out j hj) (hrN j hj)) (fun i hi2 j hj => hne j (HEL.out i hi2 j hj) (heN i hi2 j hj));by_cases hlt : k < arows.length
  · have hlt' : (k : Int) < (arows.length : Int) := jj;obtain ⟨ag,rfl,_,_,_⟩ := ar har2.own jj;obtain ⟨XA,xc,hxv⟩ := ad (har2.each k hlt);have hxl := HLEN.out k hlt;rw [hxl] at hxv;have ck : wr.cell? ⟨ag,k,none⟩ = some (.slice XA tm xc) := by
     have h1 := World.ownsRow.cellAt har2.own k (by have := har2.len; omega);rw [h1,← hxv,List.getD_eq_getElem?_getD,List.getElem?_eq_getElem (by have := har2.len; omega)];rfl
    have hxr : ap wr Ba (.slice XA tm xc) (arows.getD k []) := by have := har2.each k hlt; rw [hxv] at this; exact this
    have hfa := Fr.a1 wr (.cells #[.slice XA tm xc] 99);have HG := Hd (kJ 86 #[.pointer (some ⟨w.heap.size,0,none⟩),.pointer (some ⟨wr.heap.size,0,none⟩)] tb m vc B V vr vals ((arows.take k).map (aJ pf m)) ss (aJ pf m (arows.getD k [])) (wr.alloc (.cells #[.slice XA tm xc] 99)) hss (kx _ _ _)
     (fun j hj => by
      rw [fc pf m _ hj];exact oP _ _ _ (fun q hq => HLO.out k hlt q jj) (fun h => by rw [hxl]; exact HPL.out j hj h))
     hm (by simp; omega) (by simp; omega) nj
     (fun w2 j hj hf2 => by
      have hf3 : Fr (fun j => wr.heap.size + 1 ≤ j) (wr.alloc (.cells #[.slice XA tm xc] 99)) w2 := hf2.mono (fun q hq h => by simp at h; omega);rw [fc pf m _ hj];refine tU (ss.getD j ByteArray.empty) w.heap.size wr.heap.size tm tvc arows.length cR xc Bt Ba (pf j).1 TV (some ⟨ag,0,none⟩) XA ts (arows.getD k []) (pf j).2 w2 ht (HPF.out j hj) hxl ?_ ?_ ?_ ?_
      · exact (hblk.fr hfa id).fr hf3 (fun h => by omega)
      · exact (Blk.new wr 99 #[.slice XA tm xc]).fr hf3 (fun h => by omega)
      · exact aa (aa htv2 hfa ii) hf3 (fun q hq h => by have := HTL.out q hq; omega)
      · exact aa (aa hxr hfa ii) hf3 (fun q hq h => by have := (hxr.lt q hq).2; omega))
     (hi.tab.fr hfa id) (aa hv2 hfa ii) (hi.rows.frF hfa))
    have HTK := Hd (show (arows.take (k + 1)).map (aJ pf m) = (arows.take k).map (aJ pf m) ++ [aJ pf m (arows.getD k [])] by
     rw [List.take_add_one,List.getD_eq_getElem?_getD,List.getElem?_eq_getElem hlt,List.map_append]; rfl)
    have HFA := Hd hfa;clear hblk hv2 htv2 har2 hxr hfa hi hvN htN hrN heN hne hxv;go_wp2_with fail;refine HG.mono ?_;rintro e w3 ⟨rfl,vr',vals',hb3,hr3,hf3,hnew,_,_⟩;have HI3 := Hd (show Cq w1 w3 (w.heap.size + 1) B tb m vc V vr' vals' ((arows.take (k + 1)).map (aJ pf m)) from
     ⟨hb3,by rw [HTK.out]; exact hr3,fun j hj => by
      rcases hnew j hj with h | h
      · exact HI.new j h
      · simp at h; omega,
      (HI.fr.trans HFA.out uu).trans hf3 (fun j hj h => h.elim .inl (fun h => .inr (HI.new j h)))⟩)
    clear hb3 hr3 hf3 hnew;go_wp2_with fail;go_roundw
    case rel => exact ⟨k + 1,vr',vals',by go_num,by omega,HI3⟩
    case measure => simp only [intOf]; omega
  · have hlt' : ¬ (k : Int) < (arows.length : Int) := jj;have HTK := Hd (show arows.take k = arows from List.take_of_length_le jj);have HFF := Hd ((HF0.mono (T := fun j => j = tb) uu).trans (T := fun j => j = tb ∨ w.heap.size + 1 ≤ j) hi.fr (fun j hj h => h.elim id (fun h => by omega)));clear hblk hv2 htv2 har2 hi hvN htN hrN heN hne;go_wp2_with fail
    go_end0;exact ⟨rfl,vr,vals,HI.tab,by have h := HI.rows; rw [HTK.out] at h; exact h,HFF⟩
theorem xe : (prog.info? 47).map (·.size) = some 2 := kr
def eK (w : World) (m : Nat) (ss : List ByteArray) (e : Ending) (w' : World) : Prop :=
 ∃ V c,e = .returned (.slice V m c) ∧ w'.ownsRow w.heap.size 9 1 (.slice V m c) m (ss.map .string) ∧ Fr (fun _ => False) w w'
theorem qo (pf : Nat → Nat × Bool) (m tm tvc Ba Bt nn nc : Nat) (TV N : Option Addr) (ts ss : List ByteArray) (avr : Value) (avals : List Value) (arows : List (List Int)) (w : World) (hm : m ≤ 4096) (ht : tm ≤ 4096) (hss : ss.length = m) (htl : ts.length = tm)
    (hpf : ∀ k,k < m → gR ts (ss.getD k ByteArray.empty) (pf k).1 (pf k).2) (hpl : ∀ k,k < m → (pf k).2 = true → (pf k).1 < tm) (hlen : ∀ i,i < arows.length → (arows.getD i []).length = tm) (hlo : ∀ i,i < arows.length → ∀ k,k < tm → -1 ≤ (arows.getD i []).getD k 0)
    (hn : arows.length ≤ 4096) (hvars : ∀ w1,Fr (fun _ => False) w w1 → Calls prog 34 #[.slice N nn nc] w1 (eK w1 m ss)) (htv : w.ownsRow Bt 9 1 (.slice TV tm tvc) tm (ts.map .string)) (har : ak w Ba avr avals arows) :
    Calls prog 11 #[.agg #[.slice TV tm tvc,avr],.slice N nn nc] w fun e w' => ∃ tv,e = .returned tv ∧ aL w' w.heap.size m tv ss (arows.map (aJ pf m)) ∧ Fr (fun _ => False) w w' := by
 obtain ⟨AR,cR,hvr⟩ := ad har.own;subst hvr;have hf0 := Fr.a2 w (.cells #[.slice TV tm tvc,.slice AR arows.length cR] 47) (.cells #[.slice none 0 0,.slice none 0 0] 47);have hz1 := al1 w (.cells #[.slice TV tm tvc,.slice AR arows.length cR] 47);have hz2 := k7 w (.cells #[.slice TV tm tvc,.slice AR arows.length cR] 47) (.cells #[.slice none 0 0,.slice none 0 0] 47);have HA := Hd ((Blk.new w 47 #[.slice TV tm tvc,.slice AR arows.length cR]).alloc (.cells #[.slice none 0 0,.slice none 0 0] 47));have hy := Blk.new (w.alloc (.cells #[.slice TV tm tvc,.slice AR arows.length cR] 47)) 47 #[.slice none 0 0,.slice none 0 0];rw [hz1] at hy;have HY := Hd hy;have HF0 := Hd hf0;have HVA := Hd (hvars _ hf0);have HTV := Hd (aa htv hf0 ii);have HAR := Hd (har.frF hf0);have HASC := Hd (fun tb vc B V w hB htb hv htv har => C0 pf tb m vc tm tvc Ba Bt B V TV ts ss (.slice AR arows.length cR) avals arows w hm ht hss htl hpf hpl hlen hlo hn hB htb hv htv har);have HZ2 := Hd hz2;clear hvars htv har hf0 hpf hpl hlen hlo hy hz1 hz2 hss htl;generalize arows.map (aJ pf m) = xT at *;go_enter func11,ntmps11;go_wp2_with fail;refine HVA.mono ?_;rintro e w2 ⟨V,vc,rfl,hv2,hf2⟩;have hA2 := HA.fr hf2 id;have HY2 := Hd (HY.fr hf2 id);have HTV2 := Hd (aa HTV.out hf2 ii);have HAR2 := Hd (HAR.frF hf2);have HF2 := Hd (HF0.trans' hf2);have hsz2 := hf2.size;have hz := HZ2.out;rw [hz] at hsz2 hv2;have hfa := Fr.a1 w2 (.cells #[.slice V m vc,.slice none 0 0] 47);have HT3 := Hd (Blk.new w2 47 #[.slice V m vc,.slice none 0 0]);have a0 := hA2.c0;have a1 := hA2.c1;have HC := Hd (HASC.out w2.heap.size vc w.heap.size V _ (by simp; omega) HT3 (ai (aa hv2 hfa ii) jj) (aa HTV2.out hfa ii) (HAR2.frF hfa));have HV3 := Hd (ai (aa hv2 hfa ii) (show w.heap.size ≤ w.heap.size + 2 by omega));have HY3 := Hd (HY2.fr hfa id);have HF3 := Hd (HF2.trans' hfa);have hltA := hA2.lt;clear hv2 hf2 hA2 hfa hz;go_wp2_with fail;refine HC.mono ?_;rintro e w4 ⟨rfl,vr,vals,hb4,hr4,hf4⟩;obtain ⟨A4,c4,hv4⟩ := ad hr4.own;subst hv4;have t0 := hb4.c0;have t1 := hb4.c1;have hy4 := HY3.fr hf4 (by omega);have hst := Blk.setAll (vs := [.slice V m vc,.slice A4 xT.length c4]) (old := [.slice none 0 0,.slice none 0 0]) hy4 rfl;have HTH := Hd (Blk.there (cs := [.slice none 0 0,.slice none 0 0]) hy4 (n := 2) rfl);have HST := Hd hst.1;have hv4' := aa HV3.out hf4 (fun j hj e => ac HV3.out HT3.out de (by rw [← e]; exact hj));have HV5 := Hd (aa hv4' hst.2 (fun j hj e => ac hv4' hy4 de (by rw [← e]; exact hj)));have HR5 := Hd (hr4.frB hy4 de de hst.2);have HFF := Hd ((HF3.trans hf4 (fun j hj e => by omega)).trans hst.2 (fun j hj e => by omega));have HONE := Hd (show (#[.slice V m vc,.slice A4 xT.length c4] : Array Value).all (·.oneCell') = true from all_oneCell_toArray (by intro v hv; simp only [List.mem_cons,List.not_mem_nil,or_false] at hv; rcases hv with rfl | rfl <;> rfl));clear hb4 hr4 hf4 hy4 hst hv4' a0 a1
 go_wp2_with (refine wpList_store_mid rfl 47 _ _ rfl _ _ _ rfl rfl HTH.out xe HONE.out ?_);exact bodyPost_ret (v := .agg #[.slice V m vc,.slice A4 xT.length c4]) (results_cell_row rfl _ _ (w.heap.size + 1) 47 _ (0,0) _ rfl HST.out underlying47 rfl kr) rfl ⟨_,rfl,⟨V,vc,_,_,rfl,HV5,HR5⟩,HFF⟩
def jp (l : List (List Int)) (s : ByteArray) : Bool := l.any fun x => decide (aS x = s)
theorem fO (l : List (List Int)) (x : List Int) (s : ByteArray) : jp (l ++ [x]) s = (jp l s || decide (aS x = s)) := by
 unfold jp;rw [List.any_append];simp
def ky (rows : List (List Int)) (k : Nat) (s : ByteArray) : Option Value := if jp (rows.take k) s = true then some (.bool true) else none
def dC (rows : List (List Int)) (i : Nat) : Bool := !jp (rows.take i) (aS (rows.getD i []))
theorem dp (rows : List (List Int)) (k : Nat) (hk : k < rows.length) : rows.take (k + 1) = rows.take k ++ [rows.getD k []] := by rw [List.take_add_one,List.getD_eq_getElem?_getD,List.getElem?_eq_getElem hk]; rfl
theorem rY (rows : List (List Int)) (k : Nat) (hk : k < rows.length) : (fun x => if x = aS (rows.getD k []) then some (Value.bool true) else ky rows k x) = ky rows (k + 1) := by
 funext x;unfold ky;rw [dp rows k hk,fO];by_cases hx : x = aS (rows.getD k [])
 · rw [if_pos hx,if_pos (by rw [hx]; simp)]
 · rw [if_neg hx,decide_eq_false (fun e => hx e.symm),Bool.or_false]
theorem u6 (rows : List (List Int)) (k : Nat) : (ky rows k (aS (rows.getD k []))).getD (.bool false) = .bool (!dC rows k) := by
 unfold ky dC;rw [Bool.not_not];cases jp (rows.take k) (aS (rows.getD k [])) with
 | true => rfl
 | false => rfl
def tV (rows : List (List Int)) (sb mb : Nat) (k : Nat) (w : World) : Prop := Blk w sb 107 #[.map (some mb)] ∧ eJ w mb (ky rows k) ∧ Tb w
theorem Tb.frM {mb : Nat} (h : Tb w) (hmb : 4 ≤ mb) (hf : Fr (fun j => j = mb) w w') : Tb w' := oJ hf (fun g hg h => by
 have e : prog.globalNamed "internal/strconv.uint64pow10" = some 3 := kr;rw [e] at hg;injection hg with hg;omega) h
theorem EJ (w : World) : (zeroValue 4).run prog w = .ok (.bool false) w := kr
theorem u7 (A : Option Addr) (n c B sb mb i : Nat) (rows : List (List Int)) (w : World) (V R : Option Addr) (m vc nr rc : Nat) (hi : i < rows.length) (hl : (rows.getD i []).length = n) (hn : n ≤ 4096) (hlo : ∀ k,k < n → -1 ≤ (rows.getD i []).getD k 0 ∧ (rows.getD i []).getD k 0 ≤ 1000000) (hmb : 4 ≤ mb)
    (hS : tV rows sb mb i w) (hr : ap w B (.slice A n c) (rows.getD i [])) :
    Calls prog 37 #[.agg #[.slice V m vc,.slice R nr rc],.slice A n c,.pointer (some ⟨sb,0,none⟩)] w (fM mb (tV rows sb mb) (dC rows) i w) := by
 obtain ⟨hb,hm,ht⟩ := hS;have hf0 := Fr.a1 w (.cells #[.slice V m vc,.slice R nr rc] 47);have HN := Hd (fun w hg hr => lr A n c B (rows.getD i []) w hl hn hlo hg hr);have HSG := Hd (u6 rows i);have HSS := Hd (rY rows i hi);generalize aS (rows.getD i []) = nm at *;obtain ⟨q,hq⟩ : ∃ q,q = dC rows i := ⟨_,rfl⟩;rw [← hq] at HSG;have HQ := Hd hq;have HB := Hd (hb.fr hf0 id);have HM := Hd (hm.fr hf0 id);have HT := Hd (ht.frF hf0);have HR := Hd (hr.fr hf0 ii);have HF0 := Hd hf0;clear hb hm ht hr hq hlo hl hf0;go_enter func37,ntmps37;go_wp2_with fail;generalize w.alloc (.cells #[.slice V m vc,.slice R nr rc] 47) = w1 at *;have c0 := HB.c0
 go_region_law (first
  | (go_simp; go_at_call 38; refine (HN _ (HT.frF fw) (HR.fr fw ii)).mono ?_; rintro e w2 ⟨rfl,hf2⟩; have F2 : Fr (fun _ => False) w1 w2 := Fr.trans' fw hf2; have c2 := (HB.fr F2 id).c0; have hlk := ew (HM.fr F2 id) 107 4 underlying107 (.bool false) (EJ w2) nm; rw [HSG.out] at hlk)
  | fail)
 all_goals
  have HF2 := Hd F2;have HT2 := Hd (HT.frF F2);have HR2 := Hd (HR.fr F2 ii);have HM2 := Hd (HM.fr F2 id);have HB2 := Hd (HB.fr F2 id);clear F2 hf2 hlk c0;go_wp2_with fail
  go_region_law (first
   | (go_simp; go_at_call 38; refine (HN _ (HT2.frF fw) (HR2.fr fw ii)).mono ?_; rintro e w3 ⟨rfl,hf3⟩; have F3 : Fr (fun _ => False) w2 w3 := Fr.trans' fw hf3; have c3 := (HB2.fr F3 id).c0; obtain ⟨w4,hup,hm4,hf4⟩ := eo (HM2.fr F3 id) 107 4 underlying107 nm (.bool true))
   | fail)
  all_goals
   have hb3 := HB2.fr F3 id;have hm3 := HM2.fr F3 id;have HP := Hd (show fM mb (tV rows sb mb) (dC rows) i w (.returned (.bool q)) w4 from
    ⟨by rw [HQ.out],⟨hb3.fr hf4 (fun e => hm3.ne_blk hb3 e.symm),by rw [HSS.out] at hm4; exact hm4,(HT2.frF F3).frM hmb hf4⟩,(((HF0.trans' HF2).trans' F3).mono (T := fun j => j = mb) uu).trans' hf4⟩)
   clear hb3 hm3 hf3 F3 c3 hup hm4 hf4 c2;go_wp2_with fail;go_ret;exact HP
theorem xf : ∀ args w,(callFunc 37 args).run prog w = .ok (.enter 37 args) w := fun args w => by kernel_rfl
theorem iW {v : Value} {xs : List Int} {n : Nat} (h : ap w B v xs) (hl : xs.length = n) : ∃ A c,v = .slice A n c := by
 obtain ⟨A,c,e⟩ := ad h;exact ⟨A,c,by rw [e,hl]⟩
theorem oQ (m vc B B2 : Nat) (V : Option Addr) (vr : Value) (vals : List Value) (rows : List (List Int)) (ss : List ByteArray) (w : World) (hm : m ≤ 4096) (hV : m = 0 → V = none ∧ vc = 0) (hn : rows.length ≤ 4096)
    (hl : ∀ i,i < rows.length → (rows.getD i []).length = m) (hlo : ∀ i,i < rows.length → ∀ k,k < m → -1 ≤ (rows.getD i []).getD k 0 ∧ (rows.getD i []).getD k 0 ≤ 1000000) (hsz : 4 ≤ w.heap.size) (ht : Tb w)
    (hs : w.ownsRow B 9 1 (.slice V m vc) m (ss.map .string)) (hr : ak w B2 vr vals rows) :
    Calls prog 12 #[.agg #[.slice V m vc,vr]] w (dO w m ss (bn rows (dC rows) rows.length)) := by
 obtain ⟨A,c,hvr⟩ := ad hr.own;subst hvr;have hmk : ∀ w,(Instr.makeMap 107 none).run prog w = .ok (.map (some w.heap.size)) (w.alloc (.map #[] 0)) := fun w => rfl;obtain ⟨w1,hw1⟩ : ∃ w1,w1 = (w.alloc (.cells #[.slice V m vc,.slice A rows.length c] 47)).alloc (.cells #[.slice none 0 0,.slice none 0 0] 47) := ⟨_,rfl⟩;have hz1 : w1.heap.size = w.heap.size + 2 := by rw [hw1]; simp
 obtain ⟨w3,hw3⟩ : ∃ w3,w3 = (w1.alloc (.map #[] 0)).alloc (.cells #[.map (some (w.heap.size + 1 + 1))] 107) := ⟨_,rfl⟩;have hz3 : w3.heap.size = w.heap.size + 4 := by rw [hw3]; simp [hz1]
 have hf1 : Fr (fun _ => False) w w1 := by rw [hw1]; exact ((Fr.refl _ _).alloc _).alloc _
 have hf3 : Fr (fun _ => False) w w3 := by rw [hw3]; exact (hf1.alloc _).alloc _
 have hblk : Blk w3 (w.heap.size + 3) 107 #[.map (some (w.heap.size + 2))] := by
  have h := Blk.new (w1.alloc (.map #[] 0)) 107 #[.map (some (w.heap.size + 1 + 1))];rw [show (w1.alloc (.map #[] 0)).heap.size = w.heap.size + 3 by simp [hz1],← hw3] at h;exact h
 have hmap : eJ w3 (w.heap.size + 2) (ky rows 0) := by
  have h := (eJ.new w1).fr ((Fr.refl (fun _ => False) _).alloc (.cells #[.map (some (w.heap.size + 1 + 1))] 107)) id;rw [hz1,← hw3] at h;have e : ky rows 0 = fun _ => none := by funext x; rfl
  rw [e];exact h
 have hres : Blk w3 (w.heap.size + 1) 47 #[.slice none 0 0,.slice none 0 0] := by
  have h := Blk.new (w.alloc (.cells #[.slice V m vc,.slice A rows.length c] 47)) 47 #[.slice none 0 0,.slice none 0 0];rw [show (w.alloc (.cells #[.slice V m vc,.slice A rows.length c] 47)).heap.size = w.heap.size + 1 by simp,← hw1] at h;rw [hw3];exact (h.alloc _).alloc _
 have ht3 := ht.frF hf3;have hs3 := aa hs hf3 ii;have hr3 := hr.frF hf3;have HC := Hd (tR (w.heap.size + 2) (tV rows (w.heap.size + 3) (w.heap.size + 2)) (dC rows) 37 #[.pointer (some ⟨w.heap.size + 3,0,none⟩)] m vc B B2 V (.slice A rows.length c) vals rows ss w3 hm hV hn hl hs3 hr3 xf
  ⟨_,hmap⟩ ⟨hblk,hmap,ht3⟩ (fun k w1 w2 hw h hf => ⟨h.1.fr hf (by omega),h.2.1.fr hf (by omega),h.2.2.frN jj hf⟩)
  (fun w4 i hi hf hI => by
   have hek := (hr3.each i hi).fr hf (fun j hj h => h.elim (fun h => by have := ((hr3.each i hi).lt j hj).2; omega) (fun h => hmap.ne_row (hr3.each i hi) (by rw [hj,h])));obtain ⟨A4,c4,hv4⟩ := iW hek (hl i hi);rw [hv4] at hek ⊢;exact u7 A4 m c4 B2 (w.heap.size + 3) (w.heap.size + 2) i rows w4 V A m vc rows.length c hi (hl i hi) hm (hlo i hi) jj hI hek))
 have HY := Hd hres;have HF3 := Hd hf3;have HW1 := Hd hw1;have HW3 := Hd hw3;have HZ3 := Hd hz3;clear hblk hmap hres ht3 hs3 hr3 hf1 hf3 hw1 hw3 hz1 hz3 hs hr hl hlo ht;go_enter func12,ntmps12;go_wp2_with fail;rw [← HW1.out,← HW3.out];refine HC.mono ?_;rintro e w4 ⟨V1,vc1,vr1,vals1,rfl,hV1,hs4,hr4,hf4⟩;obtain ⟨A1,c1,hv1⟩ := ad hr4.own;subst hv1;have hy4 := HY.fr hf4 (by omega);have hst := Blk.setAll (vs := [.slice V1 m vc1,.slice A1 (bn rows (dC rows) rows.length).length c1]) (old := [.slice none 0 0,.slice none 0 0]) hy4 rfl;have HTH := Hd (Blk.there (cs := [.slice none 0 0,.slice none 0 0]) hy4 (n := 2) rfl);have HST := Hd hst.1;have hz3 := HZ3.out;have HS5 := Hd (ai (aa hs4 hst.2 (fun j hj e => ac hs4 hy4 de (by rw [hj,e]))) (show w.heap.size ≤ w3.heap.size by omega));have HR5 := Hd ((hr4.frB hy4 de de hst.2).base (show w.heap.size ≤ w3.heap.size by omega));have HFF := Hd ((HF3.trans hf4 (fun j hj e => by omega)).trans hst.2 (fun j hj e => by omega));have HONE := Hd (show (#[.slice V1 m vc1,.slice A1 (bn rows (dC rows) rows.length).length c1] : Array Value).all (·.oneCell') = true from all_oneCell_toArray (by intro v hv; simp only [List.mem_cons,List.not_mem_nil,or_false] at hv; rcases hv with rfl | rfl <;> rfl));generalize hq : bn rows (dC rows) rows.length = R0 at *;generalize R0.length = qn at *;clear hs4 hr4 hf4 hy4 hst;go_wp2_with (refine wpList_store_mid rfl 47 _ _ rfl _ _ _ rfl rfl HTH.out xe HONE.out ?_);exact bodyPost_ret (v := .agg #[.slice V1 m vc1,.slice A1 qn c1]) (results_cell_row rfl _ _ (w.heap.size + 1) 47 _ (0,0) _ rfl HST.out underlying47 rfl kr) rfl ⟨V1,vc1,_,vals1,rfl,hV1,HS5,HR5,HFF⟩
def jq (l : List (List Int)) (s : ByteArray) : Nat := (l.filter fun x => decide (aS x = s)).length
theorem nu (l : List (List Int)) (x : List Int) (s : ByteArray) : jq (l ++ [x]) s = jq l s + (if aS x = s then 1 else 0) := by
 unfold jq;rw [List.filter_append,List.length_append];congr 1;by_cases h : aS x = s
 · rw [if_pos h,List.filter_cons_of_pos (by simpa using h)]; rfl
 · rw [if_neg h,List.filter_cons_of_neg (by simpa using h)]; rfl
theorem tW (l : List (List Int)) (s : ByteArray) : jq l s ≤ l.length := List.length_filter_le _ _
theorem tX (l : List (List Int)) (s : ByteArray) (h : jp l s = false) : jq l s = 0 := by
 unfold jq;rw [List.length_eq_zero_iff,List.filter_eq_nil_iff];intro x hx;unfold jp at h;rw [List.any_eq_false] at h;exact h x hx
theorem ve (l : List (List Int)) (s : ByteArray) (k : Nat) : jq (l.take k) s ≤ jq l s := by
 unfold jq;exact ((List.take_sublist k l).filter _).length_le
def dN (rb ra : List (List Int)) (kb ka : Nat) (s : ByteArray) : Int := (jq (rb.take kb) s : Int) - (jq (ra.take ka) s : Int)
def eL (rb ra : List (List Int)) (kb ka : Nat) (s : ByteArray) : Option Value := if (jp (rb.take kb) s || jp (ra.take ka) s) = true then some (.int .i64 (dN rb ra kb ka s)) else none
theorem nw (rb ra : List (List Int)) (kb ka : Nat) (s : ByteArray) : (eL rb ra kb ka s).getD (.int .i64 0) = .int .i64 (dN rb ra kb ka s) := by
 unfold eL;cases h1 : jp (rb.take kb) s <;> cases h2 : jp (ra.take ka) s
 · rw [if_neg de];unfold dN;rw [tX _ _ h1,tX _ _ h2];rfl
 all_goals (rw [if_pos de]; rfl)
theorem tY (rb ra : List (List Int)) (kb ka : Nat) (hk : kb < rb.length) (s : ByteArray) : dN rb ra (kb + 1) ka s = dN rb ra kb ka s + (if aS (rb.getD kb []) = s then 1 else 0) := by
 unfold dN;rw [dp rb kb hk,nu];split <;> omega
theorem oV (rb ra : List (List Int)) (kb ka : Nat) (hk : ka < ra.length) (s : ByteArray) : dN rb ra kb (ka + 1) s = dN rb ra kb ka s - (if aS (ra.getD ka []) = s then 1 else 0) := by
 unfold dN;rw [dp ra ka hk,nu];split <;> omega
theorem Aj (rb ra : List (List Int)) (kb ka : Nat) (hk : kb < rb.length) : (fun x => if x = aS (rb.getD kb []) then some (Value.int .i64 (dN rb ra kb ka (aS (rb.getD kb [])) + 1)) else eL rb ra kb ka x) = eL rb ra (kb + 1) ka := by
 funext x;by_cases hx : x = aS (rb.getD kb [])
 · rw [if_pos hx];unfold eL;rw [tY rb ra kb ka hk,dp rb kb hk,fO,hx,if_pos rfl,if_pos (by simp)]
 · have hx2 : ¬ aS (rb.getD kb []) = x := fun e => hx e.symm;rw [if_neg hx];unfold eL;rw [tY rb ra kb ka hk,dp rb kb hk,fO,if_neg hx2,decide_eq_false (fun e => hx e.symm),Bool.or_false,Int.add_zero]
theorem Ak (rb ra : List (List Int)) (kb ka : Nat) (hk : ka < ra.length) : (fun x => if x = aS (ra.getD ka []) then some (Value.int .i64 (dN rb ra kb ka (aS (ra.getD ka [])) - 1)) else eL rb ra kb ka x) = eL rb ra kb (ka + 1) := by
 funext x;by_cases hx : x = aS (ra.getD ka [])
 · rw [if_pos hx];unfold eL;rw [oV rb ra kb ka hk,dp ra ka hk,fO,hx,if_pos rfl,if_pos (by simp)]
 · have hx2 : ¬ aS (ra.getD ka []) = x := fun e => hx e.symm;rw [if_neg hx];unfold eL;rw [oV rb ra kb ka hk,dp ra ka hk,fO,if_neg hx2,decide_eq_false (fun e => hx e.symm),Bool.or_false,Int.sub_zero]
theorem qp (rb ra : List (List Int)) (kb ka : Nat) (s : ByteArray) (hb : rb.length ≤ 4096) (ha : ra.length ≤ 4096) : -4096 ≤ dN rb ra kb ka s ∧ dN rb ra kb ka s ≤ 4096 := by
 unfold dN;have h1 := tW (rb.take kb) s;have h2 := tW (ra.take ka) s;rw [List.length_take] at h1 h2;omega
def fP (rb ra : List (List Int)) (i : Nat) : Bool := decide (dN rb ra rb.length (i + 1) (aS (ra.getD i [])) < 0)
def tZ (rb ra : List (List Int)) (gb mb : Nat) (k : Nat) (w : World) : Prop := Blk w gb 193 #[.map (some mb)] ∧ eJ w mb (eL rb ra rb.length k) ∧ Tb w
theorem lD (w : World) : (zeroValue 3).run prog w = .ok (.int .i64 0) w := kr
theorem xg (A : Option Addr) (n c B gb mb i : Nat) (rb ra : List (List Int)) (w : World) (V R : Option Addr) (m vc nr rc : Nat) (hi : i < ra.length) (hb4 : rb.length ≤ 4096) (ha4 : ra.length ≤ 4096) (hl : (ra.getD i []).length = n) (hn : n ≤ 4096) (hlo : ∀ k,k < n → -1 ≤ (ra.getD i []).getD k 0 ∧ (ra.getD i []).getD k 0 ≤ 1000000) (hmb : 4 ≤ mb)
    (hS : tZ rb ra gb mb i w) (hr : ap w B (.slice A n c) (ra.getD i [])) :
    Calls prog 81 #[.agg #[.slice V m vc,.slice R nr rc],.slice A n c,.pointer (some ⟨gb,0,none⟩)] w (fM mb (tZ rb ra gb mb) (fP rb ra) i w) := by
 obtain ⟨hb,hm,ht⟩ := hS;have hf0 := Fr.a1 w (.cells #[.slice V m vc,.slice R nr rc] 47);have HN := Hd (fun w hg hr => lr A n c B (ra.getD i []) w hl hn hlo hg hr);have HSG := Hd (fun k => nw rb ra rb.length k (aS (ra.getD i [])));have HSS := Hd (Ak rb ra rb.length i hi);have hbd := qp rb ra rb.length i (aS (ra.getD i [])) hb4 ha4;have hst := oV rb ra rb.length i hi (aS (ra.getD i []));rw [if_pos rfl] at hst;obtain ⟨q,hq⟩ : ∃ q,q = fP rb ra i := ⟨_,rfl⟩;have hq2 := hq;unfold fP at hq2;rw [hst] at hq2;generalize aS (ra.getD i []) = nm at *;obtain ⟨g,hg⟩ : ∃ g,g = dN rb ra rb.length i nm := ⟨_,rfl⟩;have HG := Hd hg.symm;rw [← hg] at hbd hst HSS hq2;clear hg;have HST := Hd hst;have hwr : IntKind.i64.wrap (g - 1) = g - 1 := IntWalk.i64_in _ jj;have HQ := Hd hq;have HQ2 := Hd hq2;have HB := Hd (hb.fr hf0 id);have HM := Hd (hm.fr hf0 id);have HT := Hd (ht.frF hf0);have HR := Hd (hr.fr hf0 ii);have HF0 := Hd hf0;clear hb hm ht hr hq hq2 hst hlo hl hf0;go_enter func81,ntmps81;go_wp2_with fail;generalize w.alloc (.cells #[.slice V m vc,.slice R nr rc] 47) = w1 at *;have c0 := HB.c0
 go_region_law (first
  | (go_simp; go_at_call 38; refine (HN _ (HT.frF fw) (HR.fr fw ii)).mono ?_; rintro e w2 ⟨rfl,hf2⟩; have F2 : Fr (fun _ => False) w1 w2 := Fr.trans' fw hf2; have c2 := (HB.fr F2 id).c0; have hlk := ew (HM.fr F2 id) 193 3 underlying193 (.int .i64 0) (lD w2) nm; rw [HSG.out,HG.out] at hlk; obtain ⟨w3,hup,hm3,hf3⟩ := eo (HM.fr F2 id) 193 3 underlying193 nm (.int .i64 (g - 1)))
  | fail)
 all_goals
  have hb2 := HB.fr F2 id;have hm2 := HM.fr F2 id;have HF3 := Hd ((((HF0.trans' F2).mono (T := fun j => j = mb) uu)).trans' hf3);have hb3 := hb2.fr hf3 (fun e => hm2.ne_blk hb2 e.symm);have HB3 := Hd hb3;have HT3 := Hd ((HT.frF F2).frM hmb hf3);have HR3 := Hd ((HR.fr F2 ii).fr hf3 (fun j hj e => hm2.ne_row (HR.fr F2 ii) (by rw [hj,e])));rw [HSS.out] at hm3;have HM3 := Hd hm3;have c3 := hb3.c0;clear hb2 hm2 hb3 F2 hf2 hf3 hlk hup hm3 c2 c0;go_wp2_with fail
  go_region_law (first
   | (go_simp; go_at_call 38; refine (HN _ (HT3.frF fw) (HR3.fr fw ii)).mono ?_; rintro e w4 ⟨rfl,hf4⟩; have F4 : Fr (fun _ => False) w3 w4 := Fr.trans' fw hf4; have c4 := (HB3.fr F4 id).c0; have hlk := ew (HM3.fr F4 id) 193 3 underlying193 (.int .i64 0) (lD w4) nm; rw [HSG.out,HST.out] at hlk)
   | fail)
  all_goals
   have HP := Hd (show fM mb (tZ rb ra gb mb) (fP rb ra) i w (.returned (.bool (decide (g - 1 < 0)))) w4 from
    ⟨by rw [← HQ.out,HQ2.out],⟨HB3.fr F4 id,HM3.fr F4 id,HT3.frF F4⟩,HF3.trans F4 uu⟩)
   clear hf4 F4 hlk c4 c3;go_wp2_with fail;go_ret;exact HP
theorem vf : ∀ args w,(callFunc 81 args).run prog w = .ok (.enter 81 args) w := fun args w => by kernel_rfl
theorem ua (m ca cb Ba Bb : Nat) (VA VB : Option Addr) (ss : List ByteArray) (w : World) (hm : m ≤ 4096) (hsa : w.ownsRow Ba 9 1 (.slice VA m ca) m (ss.map .string)) (hsb : w.ownsRow Bb 9 1 (.slice VB m cb) m (ss.map .string)) :
    Calls prog 32 #[.slice VA m ca,.slice VB m cb] w fun e w' => e = .returned (.bool true) ∧ ∃ q,w' = w.drewN q := by
 by_cases h0 : m = 0
 · subst h0;refine (Tryz.slices_Equal_string_empty VA VB ca 0 cb w de).mono ?_;rintro e w' ⟨rfl,rfl⟩;exact ⟨rfl,0,rfl⟩
 · obtain ⟨ga,rfl,_,_,_⟩ := ar hsa jj;obtain ⟨gb,rfl,_,_,_⟩ := ar hsb jj;have hl : ss.length = m := by have := hsa.1; simpa using this
   refine (Tryz.slices_Equal_string ga 0 m ca gb 0 m cb ss ss w jj jj jj jj (fun j hj => by rw [Nat.zero_add]; exact bL hsa j jj) (fun j hj => by rw [Nat.zero_add]; exact bL hsb j jj)).mono ?_;rintro e w' ⟨rfl,q,rfl⟩;exact ⟨by simp,q,rfl⟩
theorem vh (m ca cb Ba Bb Ba2 Bb2 : Nat) (VA VB : Option Addr) (vra vrb : Value) (valsa valsb : List Value) (ra rb : List (List Int)) (ss : List ByteArray) (w : World) (hm : m ≤ 4096) (hV : m = 0 → VA = none ∧ ca = 0) (ha4 : ra.length ≤ 4096) (hb4 : rb.length ≤ 4096)
    (hla : ∀ i,i < ra.length → (ra.getD i []).length = m) (hlb : ∀ i,i < rb.length → (rb.getD i []).length = m) (hloa : ∀ i,i < ra.length → ∀ k,k < m → -1 ≤ (ra.getD i []).getD k 0 ∧ (ra.getD i []).getD k 0 ≤ 1000000) (hlob : ∀ i,i < rb.length → ∀ k,k < m → -1 ≤ (rb.getD i []).getD k 0 ∧ (rb.getD i []).getD k 0 ≤ 1000000)
    (hsz : 4 ≤ w.heap.size) (ht : Tb w) (hsa : w.ownsRow Ba 9 1 (.slice VA m ca) m (ss.map .string)) (hra : ak w Ba2 vra valsa ra) (hsb : w.ownsRow Bb 9 1 (.slice VB m cb) m (ss.map .string)) (hrb : ak w Bb2 vrb valsb rb) :
    Calls prog 33 #[.agg #[.slice VA m ca,vra],.agg #[.slice VB m cb,vrb]] w (dO w m ss (bn ra (fP rb ra) ra.length)) := by
 obtain ⟨RA,rca,hvra⟩ := ad hra.own;obtain ⟨RB,rcb,hvrb⟩ := ad hrb.own;subst hvra hvrb;have hmk : ∀ w,(Instr.makeMap 193 none).run prog w = .ok (.map (some w.heap.size)) (w.alloc (.map #[] 0)) := fun w => rfl;obtain ⟨w3,hw3⟩ : ∃ w3,w3 = ((w.alloc (.cells #[.slice VA m ca,.slice RA ra.length rca] 47)).alloc (.cells #[.slice VB m cb,.slice RB rb.length rcb] 47)).alloc (.cells #[.slice none 0 0,.slice none 0 0] 47) := ⟨_,rfl⟩;have hz3 : w3.heap.size = w.heap.size + 3 := by rw [hw3]; simp
 obtain ⟨w5,hw5⟩ : ∃ w5,w5 = (w3.alloc (.map #[] 0)).alloc (.cells #[.map (some (w.heap.size + 1 + 1 + 1))] 193) := ⟨_,rfl⟩;have hz5 : w5.heap.size = w.heap.size + 5 := by rw [hw5]; simp [hz3]
 have hf3 : Fr (fun _ => False) w w3 := by rw [hw3]; exact (((Fr.refl _ _).alloc _).alloc _).alloc _
 have hf5 : Fr (fun _ => False) w w5 := by rw [hw5]; exact (hf3.alloc _).alloc _
 have hA : Blk w5 w.heap.size 47 #[.slice VA m ca,.slice RA ra.length rca] := by
  rw [hw5,hw3];exact ((((Blk.new w 47 #[.slice VA m ca,.slice RA ra.length rca]).alloc _).alloc _).alloc _).alloc _
 have hB : Blk w5 (w.heap.size + 1) 47 #[.slice VB m cb,.slice RB rb.length rcb] := by
  have h := Blk.new (w.alloc (.cells #[.slice VA m ca,.slice RA ra.length rca] 47)) 47 #[.slice VB m cb,.slice RB rb.length rcb];rw [show (w.alloc (.cells #[.slice VA m ca,.slice RA ra.length rca] 47)).heap.size = w.heap.size + 1 by simp] at h;rw [hw5,hw3];exact ((h.alloc _).alloc _).alloc _
 have hY : Blk w5 (w.heap.size + 2) 47 #[.slice none 0 0,.slice none 0 0] := by
  have h := Blk.new ((w.alloc (.cells #[.slice VA m ca,.slice RA ra.length rca] 47)).alloc (.cells #[.slice VB m cb,.slice RB rb.length rcb] 47)) 47 #[.slice none 0 0,.slice none 0 0];rw [show ((w.alloc (.cells #[.slice VA m ca,.slice RA ra.length rca] 47)).alloc (.cells #[.slice VB m cb,.slice RB rb.length rcb] 47)).heap.size = w.heap.size + 2 by simp,← hw3] at h;rw [hw5];exact (h.alloc _).alloc _
 have hblk : Blk w5 (w.heap.size + 4) 193 #[.map (some (w.heap.size + 3))] := by
  have h := Blk.new (w3.alloc (.map #[] 0)) 193 #[.map (some (w.heap.size + 1 + 1 + 1))];rw [show (w3.alloc (.map #[] 0)).heap.size = w.heap.size + 4 by simp [hz3],← hw5] at h;exact h
 have hmap : eJ w5 (w.heap.size + 3) (eL rb ra 0 0) := by
  have h := (eJ.new w3).fr ((Fr.refl (fun _ => False) _).alloc (.cells #[.map (some (w.heap.size + 1 + 1 + 1))] 193)) id;rw [hz3,← hw5] at h;have e : eL rb ra 0 0 = fun _ => none := by funext x; rfl
  rw [e];exact h
 have ht5 := ht.frF hf5;have hsa5 := aa hsa hf5 ii;have hsb5 := aa hsb hf5 ii;have hra5 := hra.frF hf5;have hrb5 := hrb.frF hf5;have HEQ := Hd (ua m ca cb Ba Bb VA VB ss w5 hm hsa5 hsb5);have HA := Hd hA;have HB := Hd hB;have HY := Hd hY;have HG := Hd hblk;have HM := Hd hmap;have HT := Hd ht5;have HSA := Hd hsa5;have HRA := Hd hra5;have HRB := Hd hrb5;have HF5 := Hd hf5;have HW3 := Hd hw3;have HW5 := Hd hw5;have HZ5 := Hd hz5;have HLA := Hd hla;have HLB := Hd hlb;have HLOA := Hd hloa;have HLOB := Hd hlob;obtain ⟨mb,hmbe⟩ : ∃ mb,mb = w.heap.size + 3 := ⟨_,rfl⟩;have hmb4 : 4 ≤ mb := jj;rw [← hmbe] at HG HM;have hmb1 : w.heap.size + 2 < mb := jj;have hmb2 : mb < w.heap.size + 4 := jj;clear hmbe;clear hblk hmap hA hB hY ht5 hsa5 hsb5 hra5 hrb5 hf3 hf5 hw3 hw5 hz3 hz5 hsa hra hsb hrb hla hlb hloa hlob ht;go_enter func33,ntmps33;go_wp2_with fail;rw [← HW3.out,← HW5.out];refine HEQ.mono ?_;rintro e w6 ⟨rfl,q,hq⟩;have HF6 := Hd (show Fr (fun j => j = mb) w5 w6 by rw [hq]; exact (Fr.refl _ _).drewN q);have b1 := (HB.fr HF6 (by omega)).c1;have HM6 := Hd (show eJ w6 mb (eL rb ra 0 0) from HM.fr (show Fr (fun _ => False) w5 w6 by rw [hq]; exact (Fr.refl _ _).drewN q) id);clear hq;go_wp2_with fail
 go_loopw [17] (fun iv wr => ∃ k : Nat,iv = .int .i64 (k : Int) ∧ k ≤ rb.length ∧ eJ wr mb (eL rb ra k 0) ∧ Fr (fun j => j = mb) w5 wr) (fun iv _ => rb.length - (intOf iv).toNat)
 case atStart => exact ⟨0,rfl,Nat.zero_le _,HM6,HF6⟩
 case round =>
  obtain ⟨k,rfl,hk,hmp,hf⟩ := hrel;have HFR := Hd hf;have HMR := Hd hmp;have hz5 := HZ5.out;have hmN := HM.out;have hrbR := HRB.fr hf (fun j hj e => hmN.ne_row HRB.own (by rw [hj,e])) (fun i hi j hj e => hmN.ne_row (HRB.each i hi) (by rw [hj,e]));have hgR := HG.fr hf (by omega);have htR := HT.frM hmb4 hf;by_cases hlt : k < rb.length
  · have hlt' : (k : Int) < (rb.length : Int) := jj;obtain ⟨ag,rfl,_,_,_⟩ := ar hrbR.own jj;obtain ⟨XA,xc,hxv⟩ := iW (hrbR.each k hlt) (HLB.out k hlt);have ck : wr.cell? ⟨ag,k,none⟩ = some (.slice XA m xc) := by
     rw [World.ownsRow.cellAt hrbR.own k jj,← hxv,List.getD_eq_getElem?_getD,List.getElem?_eq_getElem (by have := hrbR.len; omega)]; rfl
    have hxr : ap wr Bb2 (.slice XA m xc) (rb.getD k []) := by have := hrbR.each k hlt; rw [hxv] at this; exact this
    have HXR := Hd hxr;have HN := Hd (fun w hg hr => lr XA m xc Bb2 (rb.getD k []) w (HLB.out k hlt) hm (HLOB.out k hlt) hg hr);have HSG := Hd (nw rb ra k 0 (aS (rb.getD k [])));have hss := Aj rb ra k 0 hlt;have hbd := qp rb ra k 0 (aS (rb.getD k [])) hb4 ha4;obtain ⟨g,hg⟩ : ∃ g,g = dN rb ra k 0 (aS (rb.getD k [])) := ⟨_,rfl⟩;rw [← hg] at hbd hss HSG;generalize aS (rb.getD k []) = nm at *;have HSS := Hd hss;have hwr : IntKind.i64.wrap (g + 1) = g + 1 := IntWalk.i64_in _ jj;have c0 := hgR.c0;have HGR := Hd hgR;have HTR := Hd htR;clear hf hmp hrbR hgR htR hxv hxr hg hss b1;go_wp2_with fail
    go_region_law (first
     | (go_simp; go_at_call 38; refine (HN _ (HTR.frF fw) (HXR.fr fw ii)).mono ?_; rintro e w7 ⟨rfl,hf7⟩; have F7 : Fr (fun _ => False) wr w7 := Fr.trans' fw hf7; have c7 := (HGR.fr F7 id).c0; have hlk := ew (HMR.fr F7 id) 193 3 underlying193 (.int .i64 0) (lD w7) nm; rw [HSG.out] at hlk; obtain ⟨w8,hup,hm8,hf8⟩ := eo (HMR.fr F7 id) 193 3 underlying193 nm (.int .i64 (g + 1)))
     | fail)
    all_goals
     have HF8 := Hd ((HFR.trans F7 uu).trans' hf8);rw [HSS.out] at hm8;have HM8 := Hd hm8;clear hf7 F7 c7 hlk hup hm8 hf8 c0;go_wp2_with fail;go_roundw
     case rel => exact ⟨k + 1,by go_num,by omega,HM8,HF8⟩
     case measure => simp only [intOf]; omega
  · have hlt' : ¬ (k : Int) < (rb.length : Int) := jj;obtain rfl : k = rb.length := jj;have hsaR := aa HSA.out hf (fun j hj e => hmN.ne_row HSA (by rw [hj,e]));have hraR := HRA.fr hf (fun j hj e => hmN.ne_row HRA.own (by rw [hj,e])) (fun i hi j hj e => hmN.ne_row (HRA.each i hi) (by rw [hj,e]));have hsz5 := hf.size;have hAR := HA.fr hf (by omega);have a0 := hAR.c0;have a1 := hAR.c1;have HC := Hd (tR mb (tZ rb ra (w.heap.size + 4) mb) (fP rb ra) 81 #[.pointer (some ⟨w.heap.size + 4,0,none⟩)] m ca Ba Ba2 VA (.slice RA ra.length rca) valsa ra ss wr hm hV ha4 HLA.out hsaR hraR vf
     ⟨_,hmp⟩ ⟨hgR,hmp,htR⟩ (fun k w1 w2 hw h hf => ⟨h.1.fr hf (by omega),h.2.1.fr hf (by omega),h.2.2.frN jj hf⟩)
     (fun w4 i hi hf hI => by
      have hek := (hraR.each i hi).fr hf (fun j hj h => h.elim (fun h => by have := ((hraR.each i hi).lt j hj).2; omega) (fun h => hmp.ne_row (hraR.each i hi) (by rw [hj,h])));obtain ⟨A4,c4,hv4⟩ := iW hek (HLA.out i hi);rw [hv4] at hek ⊢;exact xg A4 m c4 Ba2 (w.heap.size + 4) mb i rb ra w4 VA RA m ca ra.length rca hi hb4 ha4 (HLA.out i hi) hm (HLOA.out i hi) hmb4 hI hek))
    have HYR := Hd (HY.fr hf (by omega));clear hf hmp hrbR hgR htR hsaR hraR hAR b1;go_wp2_with fail;refine HC.mono ?_;rintro e w4 ⟨V1,vc1,vr1,vals1,rfl,hV1,hs4,hr4,hf4⟩;obtain ⟨A1,c1,hv1⟩ := ad hr4.own;subst hv1;have hy4 := HYR.fr hf4 (by omega);have hst := Blk.setAll (vs := [.slice V1 m vc1,.slice A1 (bn ra (fP rb ra) ra.length).length c1]) (old := [.slice none 0 0,.slice none 0 0]) hy4 rfl;have HTH := Hd (Blk.there (cs := [.slice none 0 0,.slice none 0 0]) hy4 (n := 2) rfl);have HST := Hd hst.1;have HS5 := Hd (ai (aa hs4 hst.2 (fun j hj e => ac hs4 hy4 de (by rw [hj,e]))) (show w.heap.size ≤ wr.heap.size by omega));have HR5 := Hd ((hr4.frB hy4 de de hst.2).base (show w.heap.size ≤ wr.heap.size by omega));have HFF := Hd (((HF5.trans HFR (fun j hj e => by omega)).trans hf4 (fun j hj e => by omega)).trans hst.2 (fun j hj e => by omega));have HONE := Hd (show (#[.slice V1 m vc1,.slice A1 (bn ra (fP rb ra) ra.length).length c1] : Array Value).all (·.oneCell') = true from all_oneCell_toArray (by intro v hv; simp only [List.mem_cons,List.not_mem_nil,or_false] at hv; rcases hv with rfl | rfl <;> rfl));generalize hq : bn ra (fP rb ra) ra.length = R0 at *;generalize R0.length = qn at *;clear hs4 hr4 hf4 hy4 hst;go_wp2_with (refine wpList_store_mid rfl 47 _ _ rfl _ _ _ rfl rfl HTH.out xe HONE.out ?_);exact bodyPost_ret (v := .agg #[.slice V1 m vc1,.slice A1 qn c1]) (results_cell_row rfl _ _ (w.heap.size + 2) 47 _ (0,0) _ rfl HST.out underlying47 rfl kr) rfl ⟨V1,vc1,_,vals1,rfl,hV1,HS5,HR5,HFF⟩
def TabAt (w : World) (B m : Nat) (tv : Value) (ss : List ByteArray) (rows : List (List Int)) : Prop :=
 ∃ V vc vr vals,tv = .agg #[.slice V m vc,vr] ∧ (m = 0 → V = none ∧ vc = 0) ∧ w.ownsRow B 9 1 (.slice V m vc) m (ss.map .string) ∧ ak w B vr vals rows
def xh (m : Nat) (rows : List (List Int)) : Prop := rows.length ≤ 4096 ∧ (∀ i,i < rows.length → (rows.getD i []).length = m) ∧ ∀ i,i < rows.length → ∀ k,k < m → -1 ≤ (rows.getD i []).getD k 0 ∧ (rows.getD i []).getD k 0 ≤ 1000000
theorem EK (x y : Value) (w : World) : (Instr.field 47 (.agg #[x,y]) 1).run prog w = .ok y w := kr
theorem vi (m Ba Bb : Nat) (ta tb : Value) (ra rb : List (List Int)) (ss : List ByteArray) (w : World) (hm : m ≤ 4096) (hoa : xh m ra) (hob : xh m rb) (hll : ra.length = rb.length) (hkm : bn ra (fP rb ra) ra.length = []) (hsz : 4 ≤ w.heap.size) (ht : Tb w) (ha : TabAt w Ba m ta ss ra) (hb : TabAt w Bb m tb ss rb) :
    Calls prog 10 #[ta,tb] w (IsB true w) := by
 obtain ⟨VA,ca,vra,valsa,rfl,hV,hsa,hra⟩ := ha;obtain ⟨VB,cb,vrb,valsb,rfl,_,hsb,hrb⟩ := hb;obtain ⟨RA,rca,hvra⟩ := ad hra.own;obtain ⟨RB,rcb,hvrb⟩ := ad hrb.own;subst hvra hvrb;obtain ⟨n,hn⟩ : ∃ n,n = ra.length := ⟨_,rfl⟩;have hn2 : n = rb.length := hn.trans hll;rw [← hn] at hra ⊢;rw [← hn2] at hrb ⊢;have HEQ := Hd (fun w hsa hsb => ua m ca cb Ba Bb VA VB ss w hm hsa hsb);have HMI := Hd (fun w hsz ht hsa hra hsb hrb => vh m ca cb Ba Bb Ba Bb VA VB (.slice RA n rca) (.slice RB n rcb) valsa valsb ra rb ss w hm hV hoa.1 hob.1 hoa.2.1 hob.2.1 hoa.2.2 hob.2.2 hsz ht hsa hra hsb hrb);rw [hkm] at HMI;have hf0 := Fr.a2 w (.cells #[.slice VA m ca,.slice RA n rca] 47) (.cells #[.slice VB m cb,.slice RB n rcb] 47);have HSA := Hd (aa hsa hf0 ii);have HSB := Hd (aa hsb hf0 ii);have HRA := Hd (hra.frF hf0);have HRB := Hd (hrb.frF hf0);have HT := Hd (ht.frF hf0);have HF0 := Hd hf0;have HA := Hd ((Blk.new w 47 #[.slice VA m ca,.slice RA n rca]).alloc (.cells #[.slice VB m cb,.slice RB n rcb] 47));have hbb := Blk.new (w.alloc (.cells #[.slice VA m ca,.slice RA n rca] 47)) 47 #[.slice VB m cb,.slice RB n rcb];rw [show (w.alloc (.cells #[.slice VA m ca,.slice RA n rca] 47)).heap.size = w.heap.size + 1 by simp] at hbb;have HB := Hd hbb;clear hsa hsb hra hrb ht hoa hob hf0 hbb hn hn2 hll hkm;have hfd := EK;go_enter func10,ntmps10;go_wp2_with fail;generalize (w.alloc (.cells #[.slice VA m ca,.slice RA n rca] 47)).alloc (.cells #[.slice VB m cb,.slice RB n rcb] 47) = w1 at *;refine (HEQ _ HSA.out HSB).mono ?_;rintro e w2 ⟨rfl,q,hq⟩;have F2 : Fr (fun _ => False) w1 w2 := by rw [hq]; exact (Fr.refl _ _).drewN q
 have HF2 := Hd F2;have hA2 := HA.fr F2 id;have hB2 := HB.fr F2 id;have a0 := hA2.c0;have a1 := hA2.c1;have b0 := hB2.c0;have b1 := hB2.c1;have hlB := hB2.lt;have HM2 := Hd (HMI.out w2 jj (HT.frF F2) (aa HSA.out F2 ii) (HRA.frF F2) (aa HSB.out F2 ii) (HRB.frF F2));clear hq F2 hA2 hB2;go_wp2_with fail;refine HM2.mono ?_;rintro e w3 ⟨V1,vc1,vr1,vals1,rfl,_,_,hr3,hf3⟩;obtain ⟨A1,c1,hv1⟩ := ad hr3.own;have hv2 : vr1 = .slice A1 0 c1 := hv1;subst hv2;have HF3 := Hd ((HF0.trans' HF2).trans' hf3);clear hr3 hf3 hv1;go_wp2_with fail;go_ret;exact ⟨rfl,HF3⟩
def part (rs : List Int) (p q : Nat) : List Int := (rs.drop p).take (q - p)
structure DT where
 kind : Int
 text : ByteArray
 type : ByteArray
 lang : ByteArray
def bY (x : DT) : Tm := if x.kind = 0 then .bla x.text else if x.kind = 1 then .iri x.text else .lit x.text x.type x.lang
def bf (c : Int) : Bool := decide ((97 ≤ c ∧ c ≤ 122) ∨ (65 ≤ c ∧ c ≤ 90))
def cF (c : Int) : Bool := decide (48 ≤ c ∧ c ≤ 57)
def ae (s : ByteArray) (i : Nat) : Int := ((s.data.toList.getD i 0).toNat : Int)
def jr (i : Nat) (c : Int) : Bool := bf c || (cF c || (!decide (i = 0) && (decide (c = 95) || decide (c = 45))))
def bB (s : ByteArray) (i : Nat) : Bool := if h : i < s.size then jr i (ae s i) && bB s (i + 1) else true
termination_by s.size - i
theorem gG (s : ByteArray) (i : Nat) (h : i < s.size) : bB s i = (jr i (ae s i) && bB s (i + 1)) := by rw [bB,dif_pos h]
def iX (s : ByteArray) : Bool := decide (1 ≤ s.size) && (decide (s.size ≤ 100) && bB s 0)
def aO (s : ByteArray) (i part long : Nat) : Bool :=
 if h : i < s.size then
  (if ae s i = 45 then !decide (long = 0) && aO s (i + 1) (part + 1) 0
   else (bf (ae s i) || (!decide (part = 0) && cF (ae s i))) && (decide (long < 8) && aO s (i + 1) part (long + 1)))
 else decide (0 < long)
termination_by s.size - i
theorem cG (s : ByteArray) (i part long : Nat) (h : i < s.size) : aO s i part long = (if ae s i = 45 then !decide (long = 0) && aO s (i + 1) (part + 1) 0
     else (bf (ae s i) || (!decide (part = 0) && cF (ae s i))) && (decide (long < 8) && aO s (i + 1) part (long + 1))) := by rw [aO,dif_pos h]
theorem cz (s : ByteArray) (i part long : Nat) (h : ¬ i < s.size) : aO s i part long = decide (0 < long) := by rw [aO,dif_neg h]
def lE (s : ByteArray) : Bool := decide (1 ≤ s.size) && (decide (s.size ≤ 40) && aO s 0 0 0)
def bT (x : Int) : Bool := decide (0 ≤ x ∧ x ≤ 1114111 ∧ (x < 55296 ∨ 57343 < x))
def ay (x : Int) : Nat := if x < 128 then 1 else if x < 2048 then 2 else if x < 65536 then 3 else 4
def gp (x : Int) : Int :=
 if bT x = false then 6 else if x = 32 ∨ x = 9 ∨ x = 10 ∨ x = 13 then 0
 else if (97 ≤ x ∧ x ≤ 122) ∨ (65 ≤ x ∧ x ≤ 90) then 1 else if 48 ≤ x ∧ x ≤ 57 then 2
 else if 33 ≤ x ∧ x ≤ 126 then 3 else if x < 160 then 4 else 5
def dD (s : ByteArray) (many k : Nat) (n : Int) : Option Int :=
 if h : k < many then (if ae s k < 128 ∨ 191 < ae s k then none else dD s many (k + 1) (n * 64 + ae s k - 128)) else some n
termination_by many - k
theorem b9 (s : ByteArray) (many k : Nat) (n : Int) (h : k < many) : dD s many k n = (if ae s k < 128 ∨ 191 < ae s k then none else dD s many (k + 1) (n * 64 + ae s k - 128)) := by rw [dD,dif_pos h]
theorem eD (s : ByteArray) (many k : Nat) (n : Int) (h : ¬ k < many) : dD s many k n = some n := by rw [dD,dif_neg h]
def iN (many : Nat) : Option Int → Int × Nat
 | none => (-1,0)
 | some n => if bT n = true ∧ ay n = many then (n,many) else (-1,0)
theorem dR (many : Nat) (n : Int) : iN many (some n) = if bT n = true ∧ ay n = many then (n,many) else (-1,0) := rfl
def fQ (s : ByteArray) (n : Int) (many : Nat) : Int × Nat := if s.size < many then (-1,0) else iN many (dD s many 1 n)
def bC (s : ByteArray) : Int × Nat :=
 if ae s 0 < 128 then (ae s 0,1)
 else if ae s 0 < 192 then (-1,0)
 else if ae s 0 < 224 then fQ s (ae s 0 - 192) 2
 else if ae s 0 < 240 then fQ s (ae s 0 - 224) 3
 else if ae s 0 < 248 then fQ s (ae s 0 - 240) 4
 else (-1,0)
def bO (s : ByteArray) (i : Nat) (l : List Int) : List Int × Bool :=
 if h : i < s.size then (if h0 : (bC (s.extract i s.size)).2 = 0 then (l,false) else bO s (i + (bC (s.extract i s.size)).2) (l ++ [(bC (s.extract i s.size)).1])) else (l,true)
termination_by s.size - i
decreasing_by exact Nat.sub_lt_sub_left h (Nat.lt_add_of_pos_right (Nat.pos_of_ne_zero h0))
theorem gH (s : ByteArray) (i : Nat) (l : List Int) (h : i < s.size) : bO s i l = if (bC (s.extract i s.size)).2 = 0 then (l,false) else bO s (i + (bC (s.extract i s.size)).2) (l ++ [(bC (s.extract i s.size)).1]) := by
 rw [bO,dif_pos h];by_cases h0 : (bC (s.extract i s.size)).2 = 0
 · rw [dif_pos h0,if_pos h0]
 · rw [dif_neg h0,if_neg h0]
theorem eM (s : ByteArray) (i : Nat) (l : List Int) (h : ¬ i < s.size) : bO s i l = (l,true) := by rw [bO,dif_neg h]
def dE (s : ByteArray) : List Int × Bool := bO s 0 []
def iY : ByteArray := ⟨#[60,62,34,123,125,124,94,96,92]⟩
def lF (n : Int) (k : Nat) : Bool := if h : k < 9 then n == ae iY k || lF n (k + 1) else false
termination_by 9 - k
theorem cA (n : Int) (k : Nat) (h : k < 9) : lF n k = (n == ae iY k || lF n (k + 1)) := by rw [lF,dif_pos h]
theorem qs (n : Int) (k : Nat) (h : ¬ k < 9) : lF n k = false := by rw [lF,dif_neg h]
def fD (n : Int) (i : Nat) (colon : Int) : Int := if n = 58 ∧ colon < 0 then (i : Int) else colon
def bi (l : List Int) (i : Nat) (colon : Int) : Bool :=
 if h : i < l.length then
  (if gp (l.getD i 0) = 0 ∨ gp (l.getD i 0) = 4 then false else if lF (l.getD i 0) 0 = true then false else bi l (i + 1) (fD (l.getD i 0) i colon))
 else decide (0 < colon)
termination_by l.length - i
theorem dd (l : List Int) (i : Nat) (colon : Int) (h : i < l.length) : bi l i colon = (if gp (l.getD i 0) = 0 ∨ gp (l.getD i 0) = 4 then false else if lF (l.getD i 0) 0 = true then false else bi l (i + 1) (fD (l.getD i 0) i colon)) := by rw [bi,dif_pos h]
theorem dF (l : List Int) (i : Nat) (colon : Int) (h : ¬ i < l.length) : bi l i colon = decide (0 < colon) := by rw [bi,dif_neg h]
def oW (s : ByteArray) : Bool := (dE s).2 && (decide (s.size ≤ 4096) && bi (dE s).1 0 (-1))
def Al (a b c : ByteArray) : Bool := (dE a).2 && (decide (a.size ≤ 4096) && (oW b && (if c.toList.isEmpty = true then !(b.toList == [104,116,116,112,58,47,47,119,119,119,46,119,51,46,111,114,103,47,49,57,57,57,47,48,50,47,50,50,45,114,100,102,45,115,121,110,116,97,120,45,110,115,35,108,97,110,103,83,116,114,105,110,103]) else (b.toList == [104,116,116,112,58,47,47,119,119,119,46,119,51,46,111,114,103,47,49,57,57,57,47,48,50,47,50,50,45,114,100,102,45,115,121,110,116,97,120,45,110,115,35,108,97,110,103,83,116,114,105,110,103]) && lE c)))
def gT (x : DT) : Bool := if x.kind = 0 then iX x.text else if x.kind = 1 then oW x.text else Al x.text x.type x.lang
end Go.Proofs.YtfaapkpebnagmaaGreatDoor
