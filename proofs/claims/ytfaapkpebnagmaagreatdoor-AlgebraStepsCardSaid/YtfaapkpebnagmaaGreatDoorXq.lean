/- Texts of the proof, one behind the other: Qn, Wa, Wb, Wc, Wi, Wd, Yb, Xm, Oa, Ob, Oc, Od. -/
import Derived.Test.YtfaapkpebnagmaaGreatDoorXp
namespace Go.Proofs.YtfaapkpebnagmaaGreatDoor
open _root_.Go.Proofs.Tryz
open Go.RowKit Go
set_option linter.unusedVariables false
set_option maxRecDepth 100000
set_option maxHeartbeats 400000000
variable {w w' w6 w4 w8 w1 w1' : World} {rs : List Int} {B mb k cap b c p lo n0 ob hi n p' g8 q og : Nat} {K S : Nat → Prop} {s e : Int} {Ps : List (World → Nat → List Value → Prop)} {vals cs : List Value} {v v6 : Value} {P : World → Nat → List Value → Prop} {A RA : Option Addr} {css : List (List Value)} {x : UInt8} {t : PT} {l : List UInt8}
theorem dv (H : dj rs) (p : Nat) (T : ByteArray) (hp : p < 47) (hs : skip hdL [0] p + T.size < 47) : az rs p T = az hdL p T ∧ aK rs p T = aK hdL p T := by
 have h1 := eT (hd := hdL) (N := 47) rfl H.n H.pk 47 p jj hp jj;have h2 := i8 (ts := txt T) (p := skip hdL [0] p) (N := 47) H.pk (by rw [dA]; omega);have h3 : az rs p T = az hdL p T := by
  unfold az;rw [h1,h2,H.pk _ hs]
 refine ⟨h3,?_⟩;unfold aK;rw [h3,h1]
theorem vN (H : dj rs) (p : Nat) (T : ByteArray) (hp : p < 47) (hs : skip hdL [0] p + T.size ≤ 47) (hT : 0 < T.size) : aj rs p T = aj hdL p T ∧ an rs p T = an hdL p T := by
 have h1 := eT (hd := hdL) (N := 47) rfl H.n H.pk 47 p jj hp jj;have h2 := i8 (ts := txt T) (p := skip hdL [0] p) (N := 47) H.pk (by rw [dA]; omega);have h3 : aj rs p T = aj hdL p T := by
  unfold aj;rw [h1,h2]
 refine ⟨h3,?_⟩;unfold an;rw [h3,h1]
theorem dw (H : dj rs) (p : Nat) (hp : p < 47) (hs : skip hdL [0] p < 47) : skip rs [0] p = skip hdL [0] p :=
 eT (hd := hdL) (N := 47) rfl H.n H.pk 47 p jj hp hs
theorem nX (H : dj rs) (p : Nat) (x : Int) (hp : p < 47) (h : ah hdL p = x) : ah rs p = x := (H.pk p hp).trans h
theorem lY {s : Nat} (h1 : ah rs s = 63) (h2 : ah rs (s + 1) = (x.toNat : Int)) (h3 : ah rs (s + 2) = 32) (hx : cT (x.toNat : Int) = 1) (hx2 : x.toNat < 128) (hx3 : cZ (x.toNat : Int) = true) : Name rs s [x] := by
 refine ⟨h1,by rw [h2]; exact hx,fun i hi => ?_,?_⟩
 · have : i = 0 := by simp at hi; exact hi
   subst this;exact ⟨h2,hx2,hx3⟩
 · show cZ (ah rs (s + 1 + 1)) = false;rw [show s + 1 + 1 = s + 2 from rfl,h3];decide
def lUO : List UInt8 := [117,58,111]
theorem uo : (Tm.iri ⟨lUO.toArray⟩).good = true := dk
theorem vO (H : dj rs) : xp rs lUO false (CY [120]) 8 16 17 25 32 33 35 36 41 := by
 have hk : ∀ p x,p < 47 → ah hdL p = x → ah rs p = x := fun p x h1 h2 => nX H p x h1 h2;refine ⟨?_,?_,?_,?_,?_,?_,?_,?_,?_,?_⟩
 · have := dv H 0 r4 de dk;rw [this.1,this.2];decide +kernel
 · have h1 := dv H 8 tRS de dk;have h2 := dv H 9 tRS de dk;have h3 := dw H 8 de dk;have h4 := dw H 9 de dk;rw [show skip hdL [0] 8 = 9 by decide +kernel] at h3;rw [show skip hdL [0] 9 = 9 by decide +kernel] at h4;rw [h3,h4,h1.1,h1.2,h2.1,h2.2];decide +kernel
 · have h3 := dw H 16 de dk;have h4 := dw H 17 de dk;refine ⟨h3.trans dk,h4.trans dk,⟨hk 17 60 de dk,fun i hi => ?_,hk 21 62 de dk⟩,by decide,by decide,uo⟩;have hi3 : i = 0 ∨ i = 1 ∨ i = 2 := by have : i < 3 := hi; omega
   rcases hi3 with rfl | rfl | rfl
   · exact ⟨hk 18 117 de dk,by decide,by decide,by decide,by decide⟩
   · exact ⟨hk 19 58 de dk,by decide,by decide,by decide,by decide⟩
   · exact ⟨hk 20 111 de dk,by decide,by decide,by decide,by decide⟩
 · have := dv H 22 tAS de dk;show az rs 22 tAS = true ∧ aK rs 22 tAS = 25;rw [this.1,this.2];decide +kernel
 · have := dv H 25 r7 de dk;rw [this.1,this.2];decide +kernel
 · have := dv H 32 r8 de dk;rw [this.1,this.2];decide +kernel
 · intro b c A w h;have h4 := (dw H 33 de dk).trans (by decide +kernel : skip hdL [0] 33 = 33);exact kw [120] b c 33 33 A rs w de h4 h4 (lY (hk 33 63 de dk) (hk 34 120 de dk) (hk 35 32 de dk) de de de) h
 · have h3 := (dw H 35 de dk).trans (by decide +kernel : skip hdL [0] 35 = 36);have h4 := (dw H 36 de dk).trans (by decide +kernel : skip hdL [0] 36 = 36);have h5 := hk 36 87 de dk;refine ⟨h3,h4,?_,?_⟩
   · rw [h5]; decide
   · rw [h5]; decide
 · have := dv H 36 qw de dk;rw [this.1];decide +kernel
 · have := dv H 36 tWH de dk;rw [this.1,this.2];decide +kernel
def jH (rs : List Int) (One : Nat → PT → Nat → Nat → Prop) : Prop := ∀ p t e d,One p t e d → ¬ ah rs (skip rs [0] p) = 63
theorem dG.first {P : Nat → PT → Nat → Nat → Prop} : jH rs (dG rs P) := fun p t e d h => by
 cases h with
 | paren _ _ _ h1 _ _ => rw [lL h1]; decide
 | back _ i h1 h2 h3 => rw [lL h2]; decide
 | step _ i h1 h2 h3 => rw [h3.1.1]; decide
theorem bD.first {P : Nat → PT → Nat → Nat → Prop} : jH rs (bD rs P) := fun p t e d h => dG.first _ _ _ _ h.1
theorem d8.first {k : Int} {One : Nat → PT → Nat → Nat → Prop} (hO : jH rs One) : jH rs (d8 rs x k One) := fun p t e d h => by
 have key : ∀ ts d',fF rs x One p ts e d' → ¬ ah rs (skip rs [0] p) = 63 := fun ts d' hr => by
  obtain ⟨t0,_,e0,d0,_,h1,_⟩ := hr.rest;exact hO _ _ _ _ h1
 cases h with
 | one _ _ _ h _ => exact key _ _ h
 | many ts _ d0 h _ _ => exact key _ _ h
theorem aR.first : ∀ n,jH rs (aR rs n)
 | 0 => fun p t e d h => h.elim
 | n + 1 => d8.first (d8.first bD.first)
def PQo (t : PT) (w : World) (B : Nat) (cs : List Value) : Prop := ∃ (g : Nat) (v : Value),cs = [.string tRS,.string ⟨lUO.toArray⟩,.bool false,.slice (some ⟨g,0,none⟩) 1 1,.slice none 0 0,v,.slice none 0 0] ∧ nU t ⟨#[120]⟩ ⟨#[121]⟩ .nilIface w B v
theorem Dj (t : PT) : xW (PQo t) := by
 have hG := Cz t ⟨#[120]⟩ ⟨#[121]⟩ .nilIface;refine ⟨fun h => ?_,fun hB h => ?_,fun h hf => ?_,fun h hx ht hf => ?_⟩
 · obtain ⟨g,v,rfl,hg⟩ := h;obtain ⟨A,n,c,rfl⟩ := hG.slice hg;exact ⟨_,_,_,_,_,_,_,_,_,_,_,_,_,_,_,rfl⟩
 · obtain ⟨g,v,rfl,hg⟩ := h;exact ⟨g,v,rfl,hG.base hB hg⟩
 · obtain ⟨g,v,rfl,hg⟩ := h;exact ⟨g,v,rfl,hG.frF hg hf⟩
 · obtain ⟨g,v,rfl,hg⟩ := h;exact ⟨g,v,rfl,hG.frB hg hx (by rcases ht with h | h | h | h <;> rw [h] <;> decide) (by rcases ht with h | h | h | h <;> rw [h] <;> decide) (by rcases ht with h | h | h | h <;> rw [h] <;> decide) hf⟩
theorem eG (s : ByteArray) (rs : List Int) (hT : gq s rs) (H : dj rs) (T : i6 rs) (hl : rs.length ≤ 4000) (hs : s.size ≤ 4096) (n : Nat) (t : PT) (e d : Nat) (hP : aR rs n 46 t e d) (hd : d ≤ 40) (he : skip rs [0] e = rs.length - 6) (w : World) (hg : Sg w) :
    Calls prog 5 #[.string s] w (aI (PQo t) w) := by
 have hn8 := T.n;have h47 := H.n;have sk : ∀ p x,cT x ≠ 0 → ah rs p = x → skip rs [0] p = p := fun p x h1 h2 => j1 (by rw [h2]; exact h1);have e5 : ah rs (rs.length - 6 + 1) = 121 := by rw [show rs.length - 6 + 1 = rs.length - 5 by omega]; exact T.s5
 have e4 : ah rs (rs.length - 6 + 2) = 32 := by rw [show rs.length - 6 + 2 = rs.length - 4 by omega]; exact T.s4
 have hk : ∀ p x,p < 47 → ah hdL p = x → ah rs p = x := fun p x h1 h2 => nX H p x h1 h2;have k4 : skip rs [0] (rs.length - 4) = rs.length - 3 := by
  rw [dQ jj (by have h := T.s4; unfold ah at h; rw [if_pos jj] at h; rw [h]; decide),show rs.length - 4 + 1 = rs.length - 3 by omega];exact sk _ 46 de T.s3
 have k2 : skip rs [0] (rs.length - 2) = rs.length - 1 := by
  rw [dQ jj (by have h := T.s2; unfold ah at h; rw [if_pos jj] at h; rw [h]; decide),show rs.length - 2 + 1 = rs.length - 1 by omega];exact sk _ 125 de T.s1
 have m4 : aj rs (rs.length - 4) ⟨#[46]⟩ = true ∧ an rs (rs.length - 4) ⟨#[46]⟩ = rs.length - 2 := by
  have h1 : aj rs (rs.length - 4) ⟨#[46]⟩ = true := by
   unfold aj;rw [k4,cE,T.s3];decide
  exact ⟨h1,by rw [eS h1,k4,show (⟨#[46]⟩ : ByteArray).size = 1 from rfl]; omega⟩
 have m2 : aj rs (rs.length - 2) ⟨#[125]⟩ = true ∧ an rs (rs.length - 2) ⟨#[125]⟩ = rs.length := by
  have h1 : aj rs (rs.length - 2) ⟨#[125]⟩ = true := by
   unfold aj;rw [k2,cE,T.s1];decide
  exact ⟨h1,by rw [eS h1,k2,show (⟨#[125]⟩ : ByteArray).size = 1 from rfl]; omega⟩
 have ke : skip rs [0] rs.length = rs.length := bo (fun h => by omega);have hgr : az rs rs.length tGR = false := by
  unfold az;rw [ke,dP (i := 0) (by rw [dA]; decide) (by rw [Nat.add_zero,show ah rs rs.length = -1 by unfold ah; rw [if_neg jj]]; decide)];rfl
 have k44 : skip rs [0] 44 = 44 := sk 44 63 de (pz H);have nx : Name rs 44 [120] := lY (pz H) (hk 45 120 de dk) (hk 46 32 de dk) de de de;have ny : Name rs (rs.length - 6) [121] := lY T.s6 e5 e4 de de de;have k6 : skip rs [0] (rs.length - 6) = rs.length - 6 := sk _ 63 de T.s6;have hfst := aR.first n _ _ _ _ hP;have EY : aj rs 43 ⟨#[125]⟩ = false ∧ an rs 43 ⟨#[125]⟩ = 44 := by
  have := vN H 43 ⟨#[125]⟩ de dk de;rw [this.1,this.2];decide +kernel
 have k41 : skip rs [0] 41 = 42 := (dw H 41 de dk).trans dk;refine nW (PQo t) (Dj t) s rs.length w rs hT hs ke (fun b c A w1 hb hf1 hs1 => ?_);have hg1 := hg.frF hf1;have htri : ∀ w2,Sg w2 → Sc w2 b A c rs 44 → Calls prog 154 #[.agg #[.pointer (some ⟨b,0,none⟩)]] w2 (qS rs t ⟨#[120]⟩ ⟨#[121]⟩ .nilIface (rs.length - 2) w2 b A c) := fun w2 hg2 hs2 =>
  un t ⟨#[120]⟩ ⟨#[121]⟩ .nilIface rfl (ah rs (skip rs [0] 46)) rs 44 46 e (rs.length - 2) b c A w2 (fun w3 h3 => jt [120] b c 44 44 A rs w3 de k44 k44 nx h3) rfl hfst
   (fun w3 hg3 hs3 => ul n rs hl 46 t e d hP hd (skip rs [0] 46) b c A w3 Sm.skip hg3 hs3)
   (fun q w3 hq hs3 => ⟨rs.length - 4,m4.1,m4.2,by
    have h := jt [121] b c q (rs.length - 6) A rs w3 de (by rw [← he]; exact hq.symm) k6 ny hs3;rw [show rs.length - 6 + 1 + ([121] : List UInt8).length = rs.length - 4 by simp; omega] at h;exact h⟩) hg2 hs2
 have hgrp : ∀ w2,Fr (fun j => j = b) w1 w2 → Sc w2 b A c rs 41 → Calls prog 52 #[.agg #[.pointer (some ⟨b,0,none⟩)],.int .i64 40] w2 (lI (nU t ⟨#[120]⟩ ⟨#[121]⟩ .nilIface) w2 b A c rs rs.length false 0) := fun w2 hf2 hs2 => by
  refine Calls.mono ?_ (fun e' w' (h : eR (nU t ⟨#[120]⟩ ⟨#[121]⟩ .nilIface) w2 b A c rs rs.length e' w') => show (if false = true then _ else _) by rw [if_neg Bool.false_ne_true]; exact h);refine Dh t ⟨#[120]⟩ ⟨#[121]⟩ .nilIface rfl 40 de de b c 41 42 44 (rs.length - 2) rs.length A rs w2 k41 (hk 42 123 de dk) EY (fun w3 hg3 hs3 => ?_) m2 (hg1.frB hs1.blk de hf2) hs2;exact Cy t ⟨#[120]⟩ ⟨#[121]⟩ .nilIface rfl (40 - 1) rs 44 (rs.length - 2) b c A w3 (by rw [k44]; exact pz H) (fun w4 hg4 hs4 => by rw [k44] at hs4; exact htri w4 hg4 hs4) hg3 hs3
 refine (nV (nU t ⟨#[120]⟩ ⟨#[121]⟩ .nilIface) (Cz t _ _ _) rs lUO false ⟨#[120]⟩ ⟨#[]⟩ ⟨#[]⟩ 8 16 17 25 32 33 35 36 41 rs.length false 0 (vO H) hgr b c A w1 hgrp hs1).mono (fun e' w' h => ?_);unfold dS at h;rw [if_neg Bool.false_ne_true] at h;obtain ⟨g,v,rfl,_,hgp,hsc,hf⟩ := h;rw [ke] at hsc;exact ⟨_,rfl,⟨g,v,rfl,hgp⟩,hsc,hf⟩
/-! What the parser makes of items, in memory. -/
structure cO (P : World → Nat → List Value → Prop) : Prop where
 base : ∀ {w : World} {B B' : Nat} {cs : List Value},B' ≤ B → P w B cs → P w B' cs
 low : ∀ {w w' : World} {B : Nat} {cs : List Value},P w B cs → Fr (fun j => j < B) w w' → P w' B cs
 frB : ∀ {w w' : World} {B x t : Nat} {cs : Array Value} {v : List Value},P w B v → Blk w x t cs → t ≠ 180 → t ≠ 30 → t ≠ 174 → Fr (fun j => j = x) w w' → P w' B v
def iI (P : World → Nat → List Value → Prop) (w : World) (lo hi : Nat) (cs : List Value) : Prop := ∃ w0,P w0 lo cs ∧ w0.heap.size ≤ hi ∧ Fr (fun j => j < lo) w0 w
theorem iI.of (h : P w lo cs) : iI P w lo w.heap.size cs := ⟨w,h,Nat.le_refl _,Fr.refl _ _⟩
theorem iI.fr (h : iI P w lo hi cs) (hf : Fr S w w') (hS : ∀ j,lo ≤ j → j < hi → ¬ S j) : iI P w' lo hi cs := by
 obtain ⟨w0,h1,h2,h3⟩ := h;exact ⟨w0,h1,h2,h3.trans hf (fun i hi hs => by
  rcases Nat.lt_or_ge i lo with h | h
  · exact h
  · exact absurd hs (hS i h jj))⟩
theorem iI.done (h : iI P w lo hi cs) (HL : ∀ {w w' : World},P w lo cs → Fr (fun j => j < lo) w w' → P w' lo cs) : P w lo cs := by
 obtain ⟨w0,h1,h2,h3⟩ := h;exact HL h1 h3
theorem ya {e size : Nat} {xs : List Value} (h : w.ownsRow B e size v n xs) {w' : World} (hf : Fr (fun j => j < B) w w') : w'.ownsRow B e size v n xs :=
 aa h hf (fun k hk hs => by have := bs h hk; omega)
def gJ (v1 v3 : ByteArray) (k : Int) (i : ByteArray) (A : Option Addr) (n c : Nat) : List Value := [.int .i64 0,.string v1,.nilIface,.string ⟨#[]⟩,.nilIface,.string v3,.nilIface,.int .i64 k,.string i,.slice A n c,.string ⟨#[]⟩,.string ⟨#[]⟩,.nilIface,.slice none 0 0,.string ⟨#[]⟩,.string ⟨#[]⟩,.slice none 0 0]
def cC (t : PT) (v1 v3 : ByteArray) (w : World) (B : Nat) (cs : List Value) : Prop := ∃ (k : Int) (i : ByteArray) (A : Option Addr) (n c : Nat),cs = gJ v1 v3 k i A n c ∧ PAt 174 w B t [.int .i64 k,.string i,.slice A n c]
theorem aF (t : PT) (v1 v3 : ByteArray) : cO (cC t v1 v3) := by
 refine ⟨?_,?_,?_⟩
 · rintro w B B' cs hB ⟨k,i,A,n,c,e,h⟩;exact ⟨k,i,A,n,c,e,h.base hB⟩
 · rintro w w' B cs ⟨k,i,A,n,c,e,h⟩ hf;exact ⟨k,i,A,n,c,e,h.fr hf (fun j _ hj _ hs => by omega)⟩
 · rintro w w' B x t' ds cs ⟨k,i,A,n,c,e,h⟩ hx _ _ h3 hf;exact ⟨k,i,A,n,c,e,h.frB hx h3 hf⟩
def aH (Ps : List (World → Nat → List Value → Prop)) (w : World) (B : Nat) (v : Value) : Prop :=
 ∃ (A : Option Addr) (c : Nat) (css : List (List Value)),v = .slice A Ps.length c ∧ css.length = Ps.length ∧ w.ownsRow B 180 17 v Ps.length css.flatten ∧ ∀ (i : Nat) P cs,Ps[i]? = some P → css[i]? = some cs → cs.length = 17 ∧ P w B cs
theorem aH.base (HL : ∀ P ∈ Ps,cO P) {w : World} {B B' : Nat} {v : Value} (hB : B' ≤ B) (h : aH Ps w B v) : aH Ps w B' v := by
 obtain ⟨A,c,css,e,hl,hr,hi⟩ := h;exact ⟨A,c,css,e,hl,ai hr hB,fun i P cs hP hc => ⟨(hi i P cs hP hc).1,(HL P (List.mem_of_getElem? hP)).base hB (hi i P cs hP hc).2⟩⟩
theorem aH.low (HL : ∀ P ∈ Ps,cO P) {w w' : World} {B : Nat} {v : Value} (h : aH Ps w B v) (hf : Fr (fun j => j < B) w w') : aH Ps w' B v := by
 obtain ⟨A,c,css,e,hl,hr,hi⟩ := h;exact ⟨A,c,css,e,hl,ya hr hf,fun i P cs hP hc => ⟨(hi i P cs hP hc).1,(HL P (List.mem_of_getElem? hP)).low (hi i P cs hP hc).2 hf⟩⟩
theorem aH.frB (HL : ∀ P ∈ Ps,cO P) {w w' : World} {B x t : Nat} {cs : Array Value} {v : Value} (h : aH Ps w B v) (hx : Blk w x t cs) (h1 : t ≠ 180) (h2 : t ≠ 30) (h3 : t ≠ 174) (hf : Fr (fun j => j = x) w w') : aH Ps w' B v := by
 obtain ⟨A,c,css,e,hl,hr,hi⟩ := h;exact ⟨A,c,css,e,hl,aa hr hf (fun k hk e => ac hr hx (fun e => h1 e.symm) (by rw [hk,e])),fun i P cs hP hc => ⟨(hi i P cs hP hc).1,(HL P (List.mem_of_getElem? hP)).frB (hi i P cs hP hc).2 hx h1 h2 h3 hf⟩⟩
theorem fl (HL : ∀ P ∈ Ps,cO P) : xV (aH Ps) :=
 ⟨fun ⟨A,c,_,e,_⟩ => ⟨A,_,c,e⟩,fun hB h => h.base HL hB,fun h hf => h.low HL (hf.mono uu),fun h hx h1 h2 h3 hf => h.frB HL hx h1 h2 h3 hf⟩
def jI (A : Option Addr) (c : Nat) : List Value := [.int .i64 4,.string ⟨#[]⟩,.nilIface,.string ⟨#[]⟩,.nilIface,.string ⟨#[]⟩,.nilIface,.int .i64 0,.string ⟨#[]⟩,.slice none 0 0,.string ⟨#[]⟩,.string ⟨#[]⟩,.nilIface,.slice none 0 0,.string ⟨#[]⟩,.string ⟨#[]⟩,.slice A 2 c]
def lZ (Pa Pb : World → Nat → List Value → Prop) (w : World) (B : Nat) (cs : List Value) : Prop := ∃ (A : Option Addr) (c : Nat) (va vb : Value),cs = jI A c ∧ w.ownsRow B 30 1 (.slice A 2 c) 2 [va,vb] ∧ aH [Pa] w B va ∧ aH [Pb] w B vb
theorem eU {Pa Pb : World → Nat → List Value → Prop} (ha : cO Pa) (hb : cO Pb) : cO (lZ Pa Pb) := by
 have LA : ∀ P ∈ [Pa],cO P := fun P hP => by rw [List.mem_singleton.1 hP]; exact ha
 have LB : ∀ P ∈ [Pb],cO P := fun P hP => by rw [List.mem_singleton.1 hP]; exact hb
 refine ⟨?_,?_,?_⟩
 · rintro w B B' cs hB ⟨A,c,va,vb,e,h,h1,h2⟩;exact ⟨A,c,va,vb,e,ai h hB,h1.base LA hB,h2.base LB hB⟩
 · rintro w w' B cs ⟨A,c,va,vb,e,h,h1,h2⟩ hf;exact ⟨A,c,va,vb,e,ya h hf,h1.low LA hf,h2.low LB hf⟩
 · rintro w w' B x t' ds cs ⟨A,c,va,vb,e,h,h1,h2⟩ hx n1 n2 n3 hf;exact ⟨A,c,va,vb,e,aa h hf (fun k hk e => ac h hx (fun e => n2 e.symm) (by rw [hk,e])),h1.frB LA hx n1 n2 n3 hf,h2.frB LB hx n1 n2 n3 hf⟩
def ez (P : World → Nat → List Value → Prop) (rs : List Int) (q : Nat) (w : World) (b : Nat) (A : Option Addr) (c : Nat) (e : Ending) (w' : World) : Prop :=
 ∃ cs : List Value,e = .returned (.agg cs.toArray) ∧ cs.length = 17 ∧ (∀ u ∈ cs,u.oneCell' = true) ∧ P w' w.heap.size cs ∧ Sc w' b A c rs q ∧ Fr (fun j => j = b) w w'
structure GI (Ps : List (World → Nat → List Value → Prop)) (n0 ob b c : Nat) (A : Option Addr) (rs : List Int) (w wr : World) (k p : Nat) (RA : Option Addr) (cap : Nat) (css : List (List Value)) : Prop where
 sc : Sc wr b A c rs p
 sg : Sg wr
 out : Blk wr ob 30 #[.slice RA k cap]
 box : Blk wr n0 62 #[.pointer (some ⟨b,0,none⟩)]
 res : Blk wr (n0 + 1) 30 #[.slice none 0 0]
 fr : Fr (fun j => j = b) w wr
 len : css.length = k
 row : wr.ownsRow (n0 + 2) 180 17 (.slice RA k cap) k css.flatten
 itm : ∀ (i : Nat) P cs,Ps[i]? = some P → css[i]? = some cs → cs.length = 17 ∧ ∃ lo hi,n0 + 2 ≤ lo ∧ ob < lo ∧ hi ≤ wr.heap.size ∧ iI P wr lo hi cs ∧ ∀ j,(Value.slice RA k cap).ownBlock = some j → ¬ (lo ≤ j ∧ j < hi)
theorem GI.go {wr : World} (h : GI Ps n0 ob b c A rs w wr k p RA cap css) (hb : b < n0) (hob : n0 + 1 < ob) (hf : Fr (fun j => j = b) wr w') (hs : Sc w' b A c rs p') : GI Ps n0 ob b c A rs w w' k p' RA cap css :=
 ⟨hs,h.sg.frB h.sc.blk de hf,h.out.fr hf (by omega),h.box.fr hf (by omega),h.res.fr hf (by omega),h.fr.trans' hf,h.len,aa h.row hf (fun j hj e => ac h.row h.sc.blk de (by rw [hj,e])),
  fun i P cs hP hc => by
   obtain ⟨h1,lo,hi,h2,h3,h4,h5,h6⟩ := h.itm i P cs hP hc;exact ⟨h1,lo,hi,h2,h3,Nat.le_trans h4 hf.size,h5.fr hf (fun j hj _ e => by omega),h6⟩⟩
theorem GI.push {cap8 : Nat} {o : Obj} (h : GI Ps n0 ob b c A rs w w4 k p RA cap css) (hn0 : w.heap.size = n0) (hb : b < n0) (hob : n0 + 1 < ob) (hP : Ps[k]? = some P) (hcl : cs.length = 17)
    (hf : Fr (fun j => j = b) w4 w6) (hs : Sc w6 b A c rs p') (hp : P w6 w4.heap.size cs) (hgr : (w6.alloc o).grownBy w8 (Value.slice RA k cap).ownBlock) (hor : (Value.slice RA k cap).ownBlock = some g8 ∨ g8 = (w6.alloc o).heap.size) (hown : w8.ownsRow (n0 + 2) 180 17 (.slice (some ⟨g8,0,none⟩) (k + 1) cap8) (k + 1) (css.flatten ++ cs)) :
    Blk w8 ob 30 #[.slice RA k cap] ∧ GI Ps n0 ob b c A rs w (w8.setCell ⟨ob,0,none⟩ (.slice (some ⟨g8,0,none⟩) (k + 1) cap8)) (k + 1) p' (some ⟨g8,0,none⟩) cap8 (css ++ [cs]) := by
 have h6 := h.go hb hob hf hs;have F8 : Fr (fun j => (Value.slice RA k cap).ownBlock = some j) w6 w8 := ((Fr.refl _ w6).alloc o).trans (Fr.of_grown hgr) ii;have ho8 : Blk w8 ob 30 #[.slice RA k cap] := h6.out.fr F8 (fun e => ac h6.row h6.out de e);have FS : Fr (fun j => j = ob) w8 (w8.setCell ⟨ob,0,none⟩ (.slice (some ⟨g8,0,none⟩) (k + 1) cap8)) := (Fr.refl (fun j => j = ob) w8).setCell ⟨ob,0,none⟩ (fun _ => rfl) _;have FT : Fr (fun j => (Value.slice RA k cap).ownBlock = some j ∨ j = ob) w6 (w8.setCell ⟨ob,0,none⟩ (.slice (some ⟨g8,0,none⟩) (k + 1) cap8)) := (F8.mono (fun _ _ h => .inl h)).trans FS (fun _ _ h => .inr h);have hw4 : ∀ j,(Value.slice RA k cap).ownBlock = some j → j < w4.heap.size := fun j hj => cU h.row hj;have hol : ob < w4.heap.size := h.out.lt;have hge : ∀ j,(Value.slice RA k cap).ownBlock = some j → n0 + 2 ≤ j := fun j hj => bs h.row hj;have hz := al1 w6 o;refine ⟨ho8,⟨?_,?_,ho8.set_ 0 _,h6.box.fr FT (fun e => e.elim (fun e => by have := hge _ e; omega) (by omega)),h6.res.fr FT (fun e => e.elim (fun e => by have := hge _ e; omega) (by omega)),?_,by simp [h.len],?_,?_⟩⟩
 · exact h6.sc.fr FT (fun e => e.elim (fun e => by have := hge _ e; omega) (by omega)) (fun j hj e => e.elim (fun e => aw h6.sc.row h6.row de hj e) (fun e => ac h6.sc.row h6.out de (by rw [hj,e])))
 · exact Blk.fr h6.sg FT (fun e => e.elim (fun e => ac h6.row h6.sg de e) (fun e => Blk.ne_ h6.out h6.sg de e.symm))
 · exact h6.fr.trans FT (fun j hj e => e.elim (fun e => by have := hge _ e; omega) (by omega))
 · rw [List.flatten_append];simp only [List.flatten_cons,List.flatten_nil,List.append_nil];exact aa hown FS (fun j hj e => ac hown ho8 de (by rw [hj,e]))
 · intro i P' cs' hP' hc';rcases Nat.lt_trichotomy i k with hi | hi | hi
   · rw [List.getElem?_append_left (by rw [h.len]; exact hi)] at hc';obtain ⟨h1,lo,hi',h2,h3,h4,h5,h7⟩ := h6.itm i P' cs' hP' hc';refine ⟨h1,lo,hi',h2,h3,Nat.le_trans h4 FT.size,h5.fr FT (fun j hj1 hj2 e => e.elim (fun e => h7 j e ⟨hj1,hj2⟩) (by omega)),fun j hj hj2 => ?_⟩;have ej : g8 = j := by simpa [Value.ownBlock] using hj
     subst ej;rcases hor with e | e
     · exact h7 _ e hj2
     · omega
   · subst hi;rw [hP] at hP';rw [List.getElem?_append_right (by rw [h.len]; exact Nat.le_refl _),h.len] at hc';simp at hP' hc';subst hP' hc';refine ⟨hcl,w4.heap.size,w6.heap.size,by have := h.res.lt; omega,hol,FT.size,(iI.of hp).fr FT (fun j hj1 hj2 e => e.elim (fun e => by have := hw4 _ e; omega) (by omega)),fun j hj hj2 => ?_⟩;have ej : g8 = j := by simpa [Value.ownBlock] using hj
     subst ej;rcases hor with e | e
     · have := hw4 _ e;omega
     · omega
   · rw [List.getElem?_eq_none (by simp [h.len]; omega)] at hc';cases hc'
theorem Dk (h : cs.length = 17) : ∃ c0 c1 c2 c3 c4 c5 c6 c7 c8 c9 c10 c11 c12 c13 c14 c15 c16,cs = [c0,c1,c2,c3,c4,c5,c6,c7,c8,c9,c10,c11,c12,c13,c14,c15,c16] := by
 match cs,h with
 | [c0,c1,c2,c3,c4,c5,c6,c7,c8,c9,c10,c11,c12,c13,c14,c15,c16],_ => exact ⟨c0,c1,c2,c3,c4,c5,c6,c7,c8,c9,c10,c11,c12,c13,c14,c15,c16,rfl⟩
theorem GI.done (h : GI Ps n0 ob b c A rs w w4 k p RA cap css) (hn0 : w.heap.size = n0) (hb : b < n0) (HL : ∀ P ∈ Ps,cO P) (hk : k = Ps.length) :
    Blk (w4.setCell ⟨n0 + 1,0,none⟩ (.slice RA k cap)) (n0 + 1) 30 #[.slice RA k cap] ∧ aH Ps (w4.setCell ⟨n0 + 1,0,none⟩ (.slice RA k cap)) n0 (.slice RA k cap) ∧ Sc (w4.setCell ⟨n0 + 1,0,none⟩ (.slice RA k cap)) b A c rs p ∧ Fr (fun j => j = b) w (w4.setCell ⟨n0 + 1,0,none⟩ (.slice RA k cap)) := by
 have FS : Fr (fun j => j = n0 + 1) w4 (w4.setCell ⟨n0 + 1,0,none⟩ (.slice RA k cap)) := (Fr.refl (fun j => j = n0 + 1) w4).setCell ⟨n0 + 1,0,none⟩ (fun _ => rfl) _;refine ⟨h.res.set_ 0 _,?_,h.sc.fr FS (by omega) (fun j hj e => ac h.sc.row h.res de (by rw [hj,e])),h.fr.trans FS (fun j hj e => by omega)⟩;refine ⟨RA,cap,css,by rw [hk],by rw [h.len,hk],?_,fun i P cs hP hc => ?_⟩
 · have := ai (aa h.row FS (fun j hj e => ac h.row h.res de (by rw [hj,e]))) (show n0 ≤ n0 + 2 by omega);rw [← hk];exact this
 · obtain ⟨h1,lo,hi,h2,h3,h4,h5,h6⟩ := h.itm i P cs hP hc;have hl := HL P (List.mem_of_getElem? hP);exact ⟨h1,hl.base jj ((h5.fr FS (fun j hj _ e => by omega)).done hl.low)⟩
theorem pC (Ps : List (World → Nat → List Value → Prop)) (HL : ∀ P ∈ Ps,cO P) (left : Int) (hl : 1 ≤ left) (hl2 : left ≤ 40) (b c p0 p : Nat) (q s : Nat → Nat) (q2 : Nat) (A : Option Addr) (rs : List Int) (w : World) (hn : Ps.length ≤ 8) (hs0 : skip rs [0] p0 = p) (hp : ah rs p = 123)
    (hq0 : q 0 = p + 1) (hne : ∀ i,i < Ps.length → aj rs (q i) ⟨#[125]⟩ = false ∧ an rs (q i) ⟨#[125]⟩ = s i)
    (HITM : ∀ (i : Nat) P,Ps[i]? = some P → ∀ w1,Sg w1 → Sc w1 b A c rs (s i) → Calls prog 101 #[.agg #[.pointer (some ⟨b,0,none⟩)],.int .i64 (left - 1)] w1 (ez P rs (q (i + 1)) w1 b A c))
    (hend : aj rs (q Ps.length) ⟨#[125]⟩ = true ∧ an rs (q Ps.length) ⟨#[125]⟩ = q2) (hg : Sg w) (h : Sc w b A c rs p0) :
    Calls prog 52 #[.agg #[.pointer (some ⟨b,0,none⟩)],.int .i64 left] w (eR (aH Ps) w b A c rs q2) := by
 obtain ⟨i46,hi46,hz460,hz461,hz462⟩ := info_parts xd;have hf := Fr.a2 w (.cells #[.pointer (some ⟨b,0,none⟩)] 62) (.cells #[.slice none 0 0] 30);have hz := al1 w (.cells #[.pointer (some ⟨b,0,none⟩)] 62);have hy := Blk.new (w.alloc (.cells #[.pointer (some ⟨b,0,none⟩)] 62)) 30 #[.slice none 0 0];rw [hz] at hy;have HB := Hd (dn b c p0 A rs _ (h.frF hf));rw [hs0] at HB;clear hs0;have HP := Hd (fun w1 h1 => fN b c p A rs w1 h1);have y1 := qm (x := 123) (ni hp) hp;have HM := Hd (fun w1 h1 => jo ⟨#[123]⟩ b c p (p + 1) A rs w1 (ax de) de y1.1 y1.2 h1);have HE := Hd (fun k w1 h1 => b8 ⟨#[125]⟩ b c (q k) A rs w1 (ax de) de h1);have HNE := Hd hne;have HEND := Hd hend;have HIT := Hd HITM;have HLL := Hd HL;have HSG := Hd (hg.frF hf);have HX := Hd ((Blk.new w 62 #[.pointer (some ⟨b,0,none⟩)]).alloc (.cells #[.slice none 0 0] 30));have HY := Hd hy;have HF := Hd hf;have hbl := h.blk.lt;have h0 := h;have hl' : (left == 0) = false := by simp; omega
 have hlw : IntKind.i64.wrap (left - 1) = left - 1 := IntWalk.i64_in _ jj;have HQ0 := Hd hq0;obtain ⟨n,hnn⟩ : ∃ n,n = Ps.length := ⟨_,rfl⟩;rw [← hnn] at HNE HEND hn;have HNN := Hd hnn;clear h hf hy hz hp y1 hne hend HITM hg HL hq0 hnn;go_enter func52,ntmps52;go_wp2_with fail;refine HB.mono ?_;rintro e w1 ⟨⟨k,rfl⟩,hs1,hf1⟩;have hx1 := aE HX.out hbl hf1;have x1 := hx1.c0;have HX1 := Hd hx1;have HY1 := Hd (aM HY (Nat.le_succ _) hbl hf1);have HF1 := Hd ((HF.mono (T := fun j => j = b) uu).trans' hf1);have HSG1 := Hd (HSG.frB (h0.frF HF).blk de hf1);have HPP := Hd (HP.out w1 hs1);have HMM := Hd (HM.out w1 hs1);clear hx1 hf1 h0;have HS1 := Hd hs1;clear hs1;go_wp2_with fail;refine HPP.mono ?_;rintro e w1' ⟨rfl,rfl⟩;go_wp2_with fail;refine HMM.mono ?_;rintro e w2 ⟨rfl,hs2,hf2⟩;have hsg2 := HSG1.frB HS1.blk de hf2;have hf3 := Fr.a1 w2 (.cells #[.slice none 0 0] 30);have hly := (aM HY1 (Nat.le_succ _) hbl hf2).lt;have HSTART := Hd (show ∃ (k : Nat) (RA : Option Addr) (cap : Nat) (css : List (List Value)),n = n - k ∧ k ≤ n ∧ GI Ps w.heap.size w2.heap.size b c A rs w (w2.alloc (.cells #[.slice none 0 0] 30)) k (q k) RA cap css from
  ⟨0,none,0,[],rfl,Nat.zero_le _,⟨by rw [HQ0.out]; exact hs2.frF hf3,hsg2.frF hf3,Blk.new w2 30 #[.slice none 0 0],(aE HX1.out hbl hf2).fr hf3 id,(aM HY1 (Nat.le_succ _) hbl hf2).fr hf3 id,(HF1.trans' hf2).trans hf3 uu,rfl,World.ownsRow_nil _ _ _ _,fun i P cs _ hc => by simp at hc⟩⟩)
 clear hs2 hf2 hf3 x1 hsg2;go_wp2_with fail
 go_loopg [20] (n) (fun g _ wr => ∃ (k : Nat) (RA : Option Addr) (cap : Nat) (css : List (List Value)),g = n - k ∧ k ≤ n ∧ GI Ps w.heap.size w2.heap.size b c A rs w wr k (q k) RA cap css)
 case atStart => exact HSTART.out
 case round =>
  obtain ⟨k,RA,cap,css,hgk,hk,hgi⟩ := hrel;have hob : w.heap.size + 1 < w2.heap.size := hly;have x0 := hgi.box.c0;have HEE := Hd (HE.out k wr hgi.sc);have HGI := Hd hgi;clear hgi;by_cases hlt : k < n
  · rw [(HNE.out k hlt).1,(HNE.out k hlt).2] at HEE;obtain ⟨P,hP⟩ : ∃ P,Ps[k]? = some P := ⟨_,List.getElem?_eq_getElem (by rw [← HNN.out]; exact hlt)⟩;have HITK := Hd (HIT.out k P hP);have HPK := Hd hP;clear hP;go_wp2_with fail;refine HEE.mono ?_;rintro e w4 ⟨rfl,hs4,hf4⟩;have h4 := HGI.go hbl hob hf4 hs4;have x4 := h4.box.c0;have o4 := h4.out.c0;have HG4 := Hd h4;have HS4 := Hd hs4;unfold ez at HITK;clear hs4 hf4 x0 h4;go_wp2_with fail
    go_region_law (first
     | (go_simp; go_at_call 101; refine (HITK _ (HG4.sg.frF fw) (HS4.frF fw)).mono ?_; rintro e w6 ⟨cs,rfl,hcl,hc1,hp6,hs6,hf6⟩; have F6 : Fr (fun j => j = b) w4 w6 := Fr.trans' fw hf6; obtain ⟨c0,c1,c2,c3,c4,c5,c6,c7,c8,c9,c10,c11,c12,c13,c14,c15,c16,hcs⟩ := Dk hcl; have ho6 := (HG4.go hbl hob F6 hs6).out; have hr6 := (HG4.go hbl hob F6 hs6).row; have o6 := ho6.c0; have l6 := ho6.lt; subst hcs)
     | (refine step_append_lies _ (by rfl) _ _ 28 (by rfl) (w.heap.size + 2) 180 i46 _ 17 280 underlying28 hi46 hz460 hz461 hz462 rfl de (.slice RA k cap) k css.flatten (by rfl) (hr6.alloc _) _ 1 1 [c0,c1,c2,c3,c4,c5,c6,c7,c8,c9,c10,c11,c12,c13,c14,c15,c16] (by rfl) rfl (World.news_of_block (heap_alloc_new w6 _)) hc1 de (by unfold maxLen; omega) jj (by have := F6.size; simp; omega) _ rfl ?_; intro g8 cap8 w8 hown8 hgr8 hor8 hlt8; have HPU := Hd (HG4.push rfl hbl hob HPK.out hcl F6 hs6 hp6 hgr8 hor8 hown8); have o8 := HPU.1.cell 0; have f8 := HPU.1.frozen 0; have l8 := HPU.1.lt))
    all_goals
     clear hs6 hf6 F6 ho6 o6 l6 hown8 hgr8 hor8 hlt8 hp6 hr6 hc1 hcl;go_wp2_with fail
     go_roundg (n - (k + 1))
     case measure => omega
     case rel => exact ⟨k + 1,_,_,_,rfl,by omega,HPU.2⟩
  · have hkn : k = n := jj;subst hkn;rw [HEND.out.1,HEND.out.2] at HEE;go_wp2_with fail;refine HEE.mono ?_;rintro e w4 ⟨rfl,hs4,hf4⟩;have h4 := HGI.go hbl hob hf4 hs4;have o4 := h4.out.c0;have yc := h4.res.c0;have yf := h4.res.frozen 0;have HFI := Hd (h4.done rfl hbl HLL.out HNN);have HS4 := Hd h4;clear hs4 hf4 h4;go_wp2_with fail;exact bodyPost_ret (v := .agg #[.slice RA k cap]) (results_cell_row rfl _ _ (w.heap.size + 1) 30 _ (0,0) _ rfl HFI.1 underlying30 rfl kr) rfl ⟨_,rfl,HFI.2.1,HFI.2.2.1,HFI.2.2.2⟩
def kR (Pa Pb : World → Nat → List Value → Prop) (rs : List Int) (q : Nat) (w : World) (b : Nat) (A : Option Addr) (c : Nat) (e : Ending) (w' : World) : Prop :=
 ∃ (RA : Option Addr) (rc : Nat) (va vb : Value),e = .returned (.slice RA 2 rc) ∧ w'.ownsRow w.heap.size 30 1 (.slice RA 2 rc) 2 [va,vb] ∧ aH [Pa] w' w.heap.size va ∧ aH [Pb] w' w.heap.size vb ∧ Sc w' b A c rs q ∧ Fr (fun j => j = b) w w'
theorem yb : (prog.info? 30).map (fun i => (i.zero,i.size,i.bytes)) = some (some (.agg #[.slice none 0 0]),1,24) := kr
theorem sO (Pa Pb : World → Nat → List Value → Prop) (ha : cO Pa) (hb : cO Pb) (left : Int) (rs : List Int) (p q1 p2 q2 q3 : Nat) (b c : Nat) (A : Option Addr) (w : World)
    (HA : ∀ w1,Sg w1 → Sc w1 b A c rs p → Calls prog 52 #[.agg #[.pointer (some ⟨b,0,none⟩)],.int .i64 left] w1 (eR (aH [Pa]) w1 b A c rs q1))
    (hU : az rs q1 ⟨#[85,78,73,79,78]⟩ = true ∧ aK rs q1 ⟨#[85,78,73,79,78]⟩ = p2)
    (HB : ∀ w1,Sg w1 → Sc w1 b A c rs p2 → Calls prog 52 #[.agg #[.pointer (some ⟨b,0,none⟩)],.int .i64 left] w1 (eR (aH [Pb]) w1 b A c rs q2))
    (hN : az rs q2 ⟨#[85,78,73,79,78]⟩ = false ∧ aK rs q2 ⟨#[85,78,73,79,78]⟩ = q3) (hg : Sg w) (h : Sc w b A c rs p) :
    Calls prog 153 #[.agg #[.pointer (some ⟨b,0,none⟩)],.int .i64 left,.string ⟨#[85,78,73,79,78]⟩] w (kR Pa Pb rs q3 w b A c) := by
 obtain ⟨i30,hi30,hz300,hz301,hz302⟩ := info_parts yb;have LA : ∀ P ∈ [Pa],cO P := fun P hP => by rw [List.mem_singleton.1 hP]; exact ha
 have LB : ∀ P ∈ [Pb],cO P := fun P hP => by rw [List.mem_singleton.1 hP]; exact hb
 have hf := Fr.a1 w (.cells #[.pointer (some ⟨b,0,none⟩)] 62);have HGA := Hd (HA _ (hg.frF hf) (h.frF hf));have HGB := Hd HB;have HW := Hd (fun q w1 h1 => dB ⟨#[85,78,73,79,78]⟩ b c q A rs w1 (ax de) de h1);have HU := Hd hU;have HN := Hd hN;have HX := Hd (Blk.new w 62 #[.pointer (some ⟨b,0,none⟩)]);have HF := Hd hf;have HSG := Hd (hg.frF hf);have HSC := Hd (h.frF hf);have hbl := h.blk.lt;have HPOST := Hd (show ∀ e w',kR Pa Pb rs q3 w b A c e w' → kR Pa Pb rs q3 w b A c e w' from fun _ _ h => h);have hwz := al1 w (.cells #[.pointer (some ⟨b,0,none⟩)] 62);have HLA := Hd LA;have HLB := Hd LB;clear h hf HA HB hU hN hg LA LB ha hb;go_enter func153,ntmps153;go_wp2_with fail;generalize (w.alloc (.cells #[.pointer (some ⟨b,0,none⟩)] 62)) = w0 at *;refine HGA.mono ?_;rintro e w1 ⟨v,rfl,hg1,hs1,hf1⟩;obtain ⟨A1,n1,c1,hv⟩ := (fl HLA).slice hg1;subst hv;have hf2 := Fr.a1 w1 (.cells #[.slice A1 n1 c1] 30);have hx1 := HX.fr hf1 (by omega);have hsz1 := hf1.size;have hR2 := World.ownsRow_lit (base := w0.heap.size) (e := 30) (size := 1) w1 #[.slice A1 n1 c1] 1 hsz1 de rfl;have hZ2 : iI (fun w B cs => ∃ v,cs = [v] ∧ aH [Pa] w B v) (w1.alloc (.cells #[.slice A1 n1 c1] 30)) w0.heap.size w1.heap.size [.slice A1 n1 c1] := (iI.of (P := fun w B cs => ∃ v,cs = [v] ∧ aH [Pa] w B v) ⟨_,rfl,hg1⟩).fr hf2 (fun _ _ _ h => h);have HZ2 := Hd hZ2;have HR2 := Hd hR2;have HS2 := Hd (hs1.frF hf2);have HG2 := Hd ((HSG.frB HSC.blk de hf1).frF hf2);have HX2 := Hd (hx1.fr hf2 id);have HF2 := Hd (hf1.trans hf2 uu);have hw12 := al1 w1 (.cells #[.slice A1 n1 c1] 30);clear hg1 hs1 hf1 hf2 hx1 hR2 hZ2 HX HSC HSG;go_wp2_with fail
 go_loopg [7] (1) (fun g v wr => (g = 1 ∧ v = .slice (some ⟨w1.heap.size,0,none⟩) 1 1 ∧ w1.alloc (.cells #[.slice A1 n1 c1] 30) = wr) ∨ (∃ (RA : Option Addr) (rc : Nat) (vb : Value) (lo hi : Nat),v = .slice RA 2 rc ∧ Sc wr b A c rs q2 ∧ Blk wr w.heap.size 62 #[.pointer (some ⟨b,0,none⟩)] ∧ wr.ownsRow w0.heap.size 30 1 (.slice RA 2 rc) 2 [.slice A1 n1 c1,vb] ∧ Fr (fun j => j = b) w0 wr ∧ iI (fun w B cs => ∃ v,cs = [v] ∧ aH [Pa] w B v) wr w0.heap.size w1.heap.size [.slice A1 n1 c1] ∧ w0.heap.size ≤ lo ∧ iI (fun w B cs => ∃ v,cs = [v] ∧ aH [Pb] w B v) wr lo hi [vb]))
 case atStart => exact .inl ⟨rfl,rfl,rfl⟩
 case round =>
  rcases hrel with ⟨rfl,rfl,rfl⟩ | ⟨RA,rc,vb,lo,hi,rfl,hs,hx,hr,hfr,hza,hlo,hzb⟩
  · have x2 := HX2.c0;have HWW := Hd (HW.out q1 _ HS2);rw [HU.out.1,HU.out.2] at HWW;generalize hw2 : w1.alloc (.cells #[.slice A1 n1 c1] 30) = w2 at *;go_wp2_with fail;refine HWW.mono ?_;rintro e w3 ⟨rfl,hs3,hf3⟩;have hx3 := HX2.fr hf3 (by omega);have x3 := hx3.c0;have HX3 := Hd hx3;have HS3 := Hd hs3;have HG3 := Hd (HG2.frB HS2.blk de hf3);have HF3 := Hd (HF2.trans' hf3);have HR3 := Hd (aa HR2.out hf3 (fun j hj e => ac HR2.out HS2.blk de (by rw [hj,e])));have HZ3 := Hd (HZ2.fr hf3 (fun j hj _ e => by omega));have hsz3 := hf3.size;clear hs3 hf3 hx3 x2;go_wp2_with fail;refine (HGB.out w3 HG3.out HS3).mono ?_;rintro e w4 ⟨v4,rfl,hg4,hs4,hf4⟩;obtain ⟨A4,n4,c4,hv4⟩ := (fl HLB).slice hg4;subst hv4;have hx4 := HX3.fr hf4 (by omega);have HX4 := Hd hx4;have HS4 := Hd hs4;have HF4 := Hd (HF3.trans' hf4);have HR4 := Hd (aa HR3.out hf4 (fun j hj e => ac HR3.out HS3.blk de (by rw [hj,e])));have HZ4 := Hd (HZ3.fr hf4 (fun j hj _ e => by omega));have HY4 := Hd (iI.of (P := fun w B cs => ∃ v,cs = [v] ∧ aH [Pb] w B v) ⟨_,rfl,hg4⟩);have hsz4 := hf4.size;clear hg4 hs4 hf4 hx4 x3;have HB9 := Hd (Blk.new w4 30 #[.slice A4 n4 c4]);go_wp2_with (at_builtin; refine cx rfl _ _ 178 rfl w0.heap.size 30 (.agg #[.slice none 0 0]) 1 24 underlying178 yb rfl de (.slice (some ⟨w1.heap.size,0,none⟩) 1 1) 1 [.slice A1 n1 c1] rfl (HR4.alloc _) w4.heap.size #[.slice A4 n4 c4] rfl HB9 ⟨rfl,by simp [Value.oneCell']⟩ jj de (by simp; omega) (Hd ?_); intro g8 cap8 w8 hown8 hgr8 hor8);have F8 : Fr (fun j => j = w1.heap.size) w4 w8 := ((Fr.refl _ w4).alloc _).trans (Fr.of_grown hgr8) (fun j _ e => by simpa [Value.ownBlock,eq_comm] using e);have HNX := Hd (show ∃ (RA : Option Addr) (rc : Nat) (vb : Value) (lo hi : Nat),(Value.slice (some ⟨g8,0,none⟩) 2 cap8) = .slice RA 2 rc ∧ Sc w8 b A c rs q2 ∧ Blk w8 w.heap.size 62 #[.pointer (some ⟨b,0,none⟩)] ∧ w8.ownsRow w0.heap.size 30 1 (.slice RA 2 rc) 2 [.slice A1 n1 c1,vb] ∧ Fr (fun j => j = b) w0 w8 ∧ iI (fun w B cs => ∃ v,cs = [v] ∧ aH [Pa] w B v) w8 w0.heap.size w1.heap.size [.slice A1 n1 c1] ∧ w0.heap.size ≤ lo ∧ iI (fun w B cs => ∃ v,cs = [v] ∧ aH [Pb] w B v) w8 lo hi [vb] from
     ⟨some ⟨g8,0,none⟩,cap8,.slice A4 n4 c4,w3.heap.size,w4.heap.size,rfl,HS4.fr F8 (by omega) (fun j hj e => aw HS4.row HR4.out de hj (by rw [e]; rfl)),HX4.fr F8 (by omega),hown8,HF4.trans F8 (fun j hj e => by omega),HZ4.fr F8 (fun j _ hj e => by omega),by omega,HY4.fr F8 (fun j hj _ e => by omega)⟩)
    clear hown8 hgr8 hor8 F8;go_wp2_with fail
    go_roundg (0)
    case measure => omega
    case rel => exact .inr HNX.out
  · have x2 := hx.c0;have HWW := Hd (HW.out q2 _ hs);rw [HN.out.1,HN.out.2] at HWW;have HS := Hd hs;have HR := Hd hr;have HFR := Hd hfr;have HZA := Hd hza;have HZB := Hd hzb;clear hs hx hr hfr hza hzb;go_wp2_with fail;refine HWW.mono ?_;rintro e w3 ⟨rfl,hs3,hf3⟩;have hR3 := ai (aa HR.out hf3 (fun j hj e => ac HR.out HS.blk de (by rw [hj,e]))) (show w.heap.size ≤ w0.heap.size by omega);obtain ⟨va,hva,hga⟩ := (HZA.fr hf3 (fun j hj _ e => by omega)).done (fun h hf => by obtain ⟨v,e,hg⟩ := h; exact ⟨v,e,hg.low HLA.out hf⟩);obtain ⟨vb2,hvb,hgb⟩ := (HZB.fr hf3 (fun j hj _ e => by omega)).done (fun h hf => by obtain ⟨v,e,hg⟩ := h; exact ⟨v,e,hg.low HLB.out hf⟩);cases List.singleton_inj.1 hva
    cases List.singleton_inj.1 hvb
    have HFI := Hd (HPOST _ w3 ⟨RA,rc,_,vb,rfl,hR3,hga.base HLA.out jj,hgb.base HLB.out jj,hs3,(HF.mono (T := fun j => j = b) uu).trans' (HFR.trans' hf3)⟩);clear hR3 hva hga hvb hgb hs3 hf3;go_wp2_with fail;go_ret;exact HFI
theorem jJ {T : ByteArray} {x : Int} (hs : skip rs [0] q = q) (h : ah rs q = x) (hT : 0 < T.size) (hx : ¬ (txt T).getD 0 0 = x) : az rs q T = false ∧ aK rs q T = q := by
 have h1 : iV rs (skip rs [0] q) (txt T) = false := dP (i := 0) (by rw [dA]; exact hT) (by rw [Nat.add_zero,hs,h]; exact fun e => hx e.symm);have h2 : az rs q T = false := by
  unfold az;rw [h1];rfl
 refine ⟨h2,?_⟩;unfold aK;rw [h2,if_neg Bool.false_ne_true,hs]
def tUN : ByteArray := ⟨#[85,78,73,79,78]⟩
def yd (rs : List Int) (p : Nat) : Prop :=
 skip rs [0] p = p ∧ ah rs p = 123 ∧ (aj rs (p + 1) ⟨#[125]⟩ = false ∧ an rs (p + 1) ⟨#[125]⟩ = p + 2) ∧ (aj rs (p + 15) ⟨#[125]⟩ = true ∧ an rs (p + 15) ⟨#[125]⟩ = p + 17) ∧ (az rs (p + 17) tUN = true ∧ aK rs (p + 17) tUN = p + 23) ∧
 skip rs [0] (p + 23) = p + 24 ∧ ah rs (p + 24) = 123 ∧ (aj rs (p + 25) ⟨#[125]⟩ = false ∧ an rs (p + 25) ⟨#[125]⟩ = p + 26) ∧ (aj rs (p + 39) ⟨#[125]⟩ = true ∧ an rs (p + 39) ⟨#[125]⟩ = p + 41) ∧ (az rs (p + 41) tUN = false ∧ aK rs (p + 41) tUN = p + 42)
instance (rs : List Int) (p : Nat) : Decidable (yd rs p) := by unfold yd; infer_instance
theorem Fa (Pa Pb : World → Nat → List Value → Prop) (left : Int) (rs : List Int) (p q5 : Nat) (b c : Nat) (A : Option Addr) (w : World) (hk : skip rs [0] p = p) (h123 : ah rs p = 123)
    (HT : ∀ w1,Sg w1 → Sc w1 b A c rs p → Calls prog 153 #[.agg #[.pointer (some ⟨b,0,none⟩)],.int .i64 left,.string ⟨#[85,78,73,79,78]⟩] w1 (kR Pa Pb rs q5 w1 b A c)) (ha : cO Pa) (hb : cO Pb) (hg : Sg w) (h : Sc w b A c rs p) :
    Calls prog 101 #[.agg #[.pointer (some ⟨b,0,none⟩)],.int .i64 left] w (ez (lZ Pa Pb) rs q5 w b A c) := by
 have hf0 := Fr.a1 w (.cells #[.pointer (some ⟨b,0,none⟩)] 62);have HX := Hd (show Blk (w.alloc (.cells #[.pointer (some ⟨b,0,none⟩)] 62)) w.heap.size 62 #[.pointer (some ⟨b,0,none⟩)] from Blk.new w 62 _);have HS := Hd (h.frF hf0);have HG := Hd (hg.frF hf0);have HF := Hd (FrN.of (b := b) hf0);have hbl := h.blk.lt;have n1 := jJ (T := ⟨#[70,73,76,84,69,82]⟩) hk h123 de de;have n2 := jJ (T := ⟨#[66,73,78,68]⟩) hk h123 de de;have n3 := jJ (T := ⟨#[79,80,84,73,79,78,65,76]⟩) hk h123 de de;have n4 := jJ (T := ⟨#[87,73,78,68,79,87]⟩) hk h123 de de;have W1 := Hd (fun w1 h1 => dB ⟨#[70,73,76,84,69,82]⟩ b c p A rs w1 (ax de) de h1);have W2 := Hd (fun w1 h1 => dB ⟨#[66,73,78,68]⟩ b c p A rs w1 (ax de) de h1);have W3 := Hd (fun w1 h1 => dB ⟨#[79,80,84,73,79,78,65,76]⟩ b c p A rs w1 (ax de) de h1);have W4 := Hd (fun w1 h1 => dB ⟨#[87,73,78,68,79,87]⟩ b c p A rs w1 (ax de) de h1);rw [n1.1,n1.2] at W1;rw [n2.1,n2.2] at W2;rw [n3.1,n3.2] at W3;rw [n4.1,n4.2] at W4;have HN := Hd (fun w1 h1 => cD b c p A rs w1 h1);rw [hk,h123] at HN;have HTT := Hd HT;have HIL := Hd (eU ha hb);have HPOST := Hd (show ∀ e w',ez (lZ Pa Pb) rs q5 w b A c e w' → ez (lZ Pa Pb) rs q5 w b A c e w' from fun _ _ h => h);clear h hg hf0 HT h123 hk n1 n2 n3 n4 ha hb;go_enter func101,ntmps101;go_wp2_with ((with_reducible change wpList _ _ _ (Oper.mk _ (.alloc 180) _ _ _ _ :: _) _ _); refine bU rfl 180 rfl Z68 lX ?_);generalize (w.alloc (.cells #[.pointer (some ⟨b,0,none⟩)] 62)) = wb0 at *;refine Hd ?_;rintro w0 z0 HZ0 HY0 HF0 hs0;have hz0 : z0.size = 17 := by rw [HZ0.out]; rfl
 have hx0 := HX.fr HF0.out id;have x0 := hx0.c0;have HX0 := Hd hx0;have HS0 := Hd (HS.frF HF0);have HG0 := Hd (HG.frF HF0);have HFr0 := Hd (HF.andF HF0);clear HZ0 HX HS HG HF HF0 hx0;go_wp2_with fail;refine (W1.out w0 HS0).mono ?_;rintro e w1 ⟨rfl,hs1,hf1⟩;have hx := HX0.fr hf1 (by omega);have x1 := hx.c0;have HX1 := Hd hx;have HY1 := Hd (HY0.fr hf1 (by omega));have HS1 := Hd hs1;have HF1 := Hd (HFr0.andB hf1);have HG1 := Hd (HG0.frB HS0.blk de hf1);clear hx hs1 hf1 x0;go_wp2_with fail;refine (W2.out w1 HS1).mono ?_;rintro e w2 ⟨rfl,hs2,hf2⟩;have hx := HX1.fr hf2 (by omega);have x2 := hx.c0;have HX2 := Hd hx;have HY2 := Hd (HY1.fr hf2 (by omega));have HS2 := Hd hs2;have HF2 := Hd (HF1.andB hf2);have HG2 := Hd (HG1.frB HS1.blk de hf2);clear hx hs2 hf2 x1;go_wp2_with fail;refine (W3.out w2 HS2).mono ?_;rintro e w3 ⟨rfl,hs3,hf3⟩;have hx := HX2.fr hf3 (by omega);have x3 := hx.c0;have HX3 := Hd hx;have HY3 := Hd (HY2.fr hf3 (by omega));have HS3 := Hd hs3;have HF3 := Hd (HF2.andB hf3);have HG3 := Hd (HG2.frB HS2.blk de hf3);clear hx hs3 hf3 x2;go_wp2_with fail;refine (W4.out w3 HS3).mono ?_;rintro e w4 ⟨rfl,hs4,hf4⟩;have hx := HX3.fr hf4 (by omega);have x4 := hx.c0;have HX4 := Hd hx;have HY4 := Hd (HY3.fr hf4 (by omega));have HS4 := Hd hs4;have HF4 := Hd (HF3.andB hf4);have HG4 := Hd (HG3.frB HS3.blk de hf4);clear hx hs4 hf4 x3;go_wp2_with fail;refine (HN.out w4 HS4).mono ?_;rintro e w5 ⟨rfl,hs5,hf5⟩;have hx := HX4.fr hf5 (by omega);have x5 := hx.c0;have HY5 := Hd (HY4.fr hf5 (by omega));have HS5 := Hd hs5;have HF5 := Hd (HF4.andB hf5);have HG5 := Hd (HG4.frB HS4.blk de hf5);clear hx hs5 hf5 x4;go_wp2_with fail;refine (HTT.out w5 HG5.out HS5).mono ?_;rintro e w6 ⟨RA,rc,va,vb,rfl,hr6,hga,hgb,hs6,hf6⟩;have HY6 := Hd (HY5.fr hf6 (by omega));have HS6 := Hd hs6;have HF6 := Hd (HF5.andB hf6);have HP6 := Hd (show lZ Pa Pb w6 w5.heap.size (jI RA rc) from ⟨RA,rc,va,vb,rfl,hr6,hga,hgb⟩);have hsz5 := HY5.lt;clear hs6 hf6 hr6 hga hgb x5;have HC7 := Hd (show aY 17 (jI RA rc).toArray from ⟨rfl,all_oneCell_toArray (cs := jI RA rc) (by
  intro u hu;unfold jI at hu;simp only [List.mem_cons,List.not_mem_nil,or_false] at hu;rcases hu with rfl | rfl | rfl | rfl | rfl | rfl | rfl | rfl | rfl | rfl | rfl | rfl | rfl | rfl | rfl | rfl | rfl <;> rfl)⟩)
 have hbu : prog.built 180 [(0,.int .i64 4),(8,.slice RA 2 rc)] = some (jI RA rc).toArray := kr;go_wp2_with ((with_reducible change wpList _ _ _ (Oper.mk _ (.build 180 _) _ _ _ _ :: _) _ _); refine gI rfl 180 _ rfl [(0,.int .i64 4),(8,.slice RA 2 rc)] (by simp only [List.map_toArray,List.map_nil,List.map_cons]; rfl) (jI RA rc).toArray hbu ?_);refine Hd ?_;rintro zz HZZ;have hNz : aY 17 zz := HZZ.out ▸ HC7.out;go_wp2_with ((with_reducible change wpList _ _ _ (Oper.mk _ (.store 180 _ _) _ _ _ _ :: _) _ _); refine ao rfl 180 _ _ rfl _ zz rfl rfl 180 _ HY6 (by rw [hNz.sz,hz0]) (fI hNz) (hNz).one ?_);refine Hd ?_;rintro wz hbz hfz;have HFZ := Hd (HF6.andX hfz jj).done;have HSZ := Hd (HS6.fr hfz (by omega) (fun j hj e => ac HS6.row HY6.out de (by rw [hj,e])));have HPZ := Hd (HIL.base (show w.heap.size ≤ w5.heap.size by omega) (HIL.low HP6 (hfz.mono (fun j _ e => by omega))));have HFI := Hd (HPOST.out (.returned (.agg zz)) wz ⟨jI RA rc,by rw [HZZ.out],rfl,fun u hu => Array.all_eq_true_iff_forall_mem.1 HC7.out.one u (by simpa using hu),HPZ.out,HSZ.out,HFZ.out⟩);go_wp2_with fail;exact bodyPost_ret (v := .agg zz) (results_cell_row rfl _ _ (w.heap.size + 1) 180 _ (0,0) _ rfl hbz underlying180 rfl (fI hNz)) rfl HFI.out
def gM (rs : List Int) (p : Nat) (a d : UInt8) : Prop :=
 Name rs p [a] ∧ skip rs [0] p = p ∧ ah rs p = 63 ∧ Name rs (p + 9) [d] ∧ skip rs [0] (p + 9) = p + 9 ∧ skip rs [0] (p + 8) = p + 9 ∧ aj rs (p + 11) ⟨#[46]⟩ = true ∧ an rs (p + 11) ⟨#[46]⟩ = p + 13 ∧
 aj rs (p + 2) (mk1 40) = false ∧ aj rs (p + 2) (mk1 94) = false ∧ lK rs (p + 8) = 0 ∧ aj rs (p + 8) (mk1 47) = false ∧ aj rs (p + 8) (mk1 124) = false
instance (rs : List Int) (p : Nat) (a d : UInt8) : Decidable (gM rs p a d) := by unfold gM Name; infer_instance
def er (rs : List Int) : Prop := rs.length ≤ 4000
instance (rs : List Int) : Decidable (er rs) := by unfold er; infer_instance
theorem Dl {v1 v3 : ByteArray} {e : Ending} (h : qS rs t v1 v3 .nilIface q w b A c e w') : ez (cC t v1 v3) rs q w b A c e w' := by
 obtain ⟨k,i,A2,n2,c2,rfl,h1,h2,h3⟩ := h;refine ⟨gJ v1 v3 k i A2 n2 c2,rfl,rfl,fun u hu => ?_,⟨k,i,A2,n2,c2,rfl,h1⟩,h2,h3⟩;unfold gJ at hu;simp only [List.mem_cons,List.not_mem_nil,or_false] at hu;rcases hu with rfl | rfl | rfl | rfl | rfl | rfl | rfl | rfl | rfl | rfl | rfl | rfl | rfl | rfl | rfl | rfl | rfl <;> rfl
theorem cJ (HS : er rs) {p : Nat} {a d : UInt8} {u : ByteArray} (H : gM rs p a d) (hI : dU rs (p + 2) (p + 8) u) (left : Int) (b c : Nat) (A : Option Addr) (w : World) (hg : Sg w) (h : Sc w b A c rs p) :
    Calls prog 101 #[.agg #[.pointer (some ⟨b,0,none⟩)],.int .i64 left] w (ez (cC (.leaf 0 u) ⟨#[a]⟩ ⟨#[d]⟩) rs (p + 13) w b A c) := by
 obtain ⟨n1,k1,h63,n2,k2,k3,m1,m2,a1,a2,a3,a4,a5⟩ := H;have hpath : aR rs 1 (p + 2) (.leaf 0 u) (p + 8) 1 := .one _ _ _ _ (.one _ _ _ _ (.one _ _ _ _ (.one _ _ _ _ (.plain _ _ _ _ _ (.step _ _ _ a1 a2 hI) a3)) a4)) a5;refine (Cy (.leaf 0 u) ⟨#[a]⟩ ⟨#[d]⟩ .nilIface rfl left rs p (p + 13) b c A w (by rw [k1]; exact h63) (fun w2 hg2 hs2 => ?_) hg h).mono (fun _ _ h => Dl h);rw [k1] at hs2;exact un (.leaf 0 u) ⟨#[a]⟩ ⟨#[d]⟩ .nilIface rfl (ah rs (skip rs [0] (p + 2))) rs p (p + 2) (p + 8) (p + 13) b c A w2 (fun w3 h3 => jt [a] b c p p A rs w3 (by simp) k1 k1 n1 h3) rfl (aR.first 1 _ _ _ _ hpath)
  (fun w3 hg3 hs3 => ul 1 rs HS (p + 2) (.leaf 0 u) (p + 8) 1 hpath de (skip rs [0] (p + 2)) b c A w3 Sm.skip hg3 hs3)
  (fun q w3 hq hs3 => ⟨p + 11,m1,m2,jt [d] b c q (p + 9) A rs w3 (by simp) (by rw [← k3]; exact hq.symm) k2 n2 hs3⟩) hg2 hs2
def PQi (Ps : List (World → Nat → List Value → Prop)) (w : World) (B : Nat) (cs : List Value) : Prop := ∃ (g : Nat) (v : Value),cs = [.string tRS,.string ⟨lUO.toArray⟩,.bool false,.slice (some ⟨g,0,none⟩) 1 1,.slice none 0 0,v,.slice none 0 0] ∧ aH Ps w B v
theorem Dm (HL : ∀ P ∈ Ps,cO P) : xW (PQi Ps) := by
 have hG := fl HL;refine ⟨fun h => ?_,fun hB h => ?_,fun h hf => ?_,fun h hx ht hf => ?_⟩
 · obtain ⟨g,v,rfl,hg⟩ := h;obtain ⟨A,n,c,rfl⟩ := hG.slice hg;exact ⟨_,_,_,_,_,_,_,_,_,_,_,_,_,_,_,rfl⟩
 · obtain ⟨g,v,rfl,hg⟩ := h;exact ⟨g,v,rfl,hG.base hB hg⟩
 · obtain ⟨g,v,rfl,hg⟩ := h;exact ⟨g,v,rfl,hG.frF hg hf⟩
 · obtain ⟨g,v,rfl,hg⟩ := h;exact ⟨g,v,rfl,hG.frB hg hx (by rcases ht with h | h | h | h <;> rw [h] <;> decide) (by rcases ht with h | h | h | h <;> rw [h] <;> decide) (by rcases ht with h | h | h | h <;> rw [h] <;> decide) hf⟩
theorem kf (h : PQo t w B cs) : PQi [cC t ⟨#[120]⟩ ⟨#[121]⟩] w B cs := by
 obtain ⟨g,v,rfl,A,c,pk,pi,pA,pn,pc,rfl,h1,h2⟩ := h;refine ⟨g,_,rfl,A,c,[gJ ⟨#[120]⟩ ⟨#[121]⟩ pk pi pA pn pc],rfl,rfl,by simpa [gJ] using h1,fun i P cs hP hc => ?_⟩
 match i with
 | 0 =>
  simp at hP hc;subst hP hc;exact ⟨rfl,⟨pk,pi,pA,pn,pc,rfl,h2⟩⟩
 | i + 1 => simp at hP
def QC (rs : List Int) (l : List UInt8) (dis : Bool) (p1 p2 s2 p4 p5 p6 p7 s7 p8 : Nat) : Prop :=
 (az rs 0 r4 = true ∧ aK rs 0 r4 = p1) ∧ (az rs p1 tRS = true ∧ aK rs p1 tRS = p2 ∧ skip rs [0] (skip rs [0] p1) = skip rs [0] p1 ∧ az rs (skip rs [0] p1) tRS = true ∧ aK rs (skip rs [0] p1) tRS = p2) ∧
 (skip rs [0] p2 = s2 ∧ skip rs [0] s2 = s2 ∧ (ah rs s2 = 60 ∧ (∀ i,i < l.length → ah rs (s2 + 1 + i) = ((l.getD i 0).toNat : Int) ∧ (l.getD i 0).toNat < 128 ∧ (l.getD i 0).toNat ≠ 10 ∧ (l.getD i 0).toNat ≠ 62 ∧ (l.getD i 0).toNat ≠ 92) ∧ ah rs (s2 + 1 + l.length) = 62)) ∧
 (az rs (s2 + l.length + 2) tAS = true ∧ aK rs (s2 + l.length + 2) tAS = p4) ∧ (az rs p4 r7 = true ∧ aK rs p4 r7 = p5) ∧ (az rs p5 r8 = dis ∧ aK rs p5 r8 = p6) ∧
 (skip rs [0] p7 = s7 ∧ skip rs [0] s7 = s7 ∧ ah rs s7 ≠ 63 ∧ ah rs s7 ≠ 40) ∧ az rs s7 qw = false ∧ (az rs s7 tWH = true ∧ aK rs s7 tWH = p8)
instance (rs : List Int) (l : List UInt8) (dis : Bool) (p1 p2 s2 p4 p5 p6 p7 s7 p8 : Nat) : Decidable (QC rs l dis p1 p2 s2 p4 p5 p6 p7 s7 p8) := by unfold QC; infer_instance
theorem QC.text {dis : Bool} {p1 p2 s2 p4 p5 p6 p7 s7 p8 : Nat} {sv : Value} (h : QC rs l dis p1 p2 s2 p4 p5 p6 p7 s7 p8) (h0 : l ≠ []) (h1 : l.length ≤ 4000) (h2 : (Tm.iri ⟨l.toArray⟩).good = true)
    (h3 : ∀ (b c : Nat) (A : Option Addr) (w : World),Sc w b A c rs p6 → Calls prog 49 #[.agg #[.pointer (some ⟨b,0,none⟩)]] w (aV w b A c rs p7 sv)) : xp rs l dis sv p1 p2 s2 p4 p5 p6 p7 s7 p8 := by
 obtain ⟨a1,a2,⟨a3,a4,a5⟩,a6,a7,a8,a9,a10,a11⟩ := h;exact ⟨a1,a2,⟨a3,a4,a5,h0,h1,h2⟩,a6,a7,a8,h3,a9,a10,a11⟩
def NC (rs : List Int) (p s : Nat) (l : List UInt8) : Prop :=
 skip rs [0] p = s ∧ skip rs [0] s = s ∧ (ah rs s = 63 ∧ cT (ah rs (s + 1)) = 1 ∧ (∀ i,i < l.length → ah rs (s + 1 + i) = ((l.getD i 0).toNat : Int) ∧ (l.getD i 0).toNat < 128 ∧ cZ ((l.getD i 0).toNat : Int) = true) ∧ cZ (ah rs (s + 1 + l.length)) = false)
instance (rs : List Int) (p s : Nat) (l : List UInt8) : Decidable (NC rs p s l) := by unfold NC; infer_instance
theorem NC.name {s : Nat} (h : NC rs p s l) : Name rs s l := h.2.2
theorem dx (Ps : List (World → Nat → List Value → Prop)) (HL : ∀ P ∈ Ps,cO P) (s : ByteArray) (rs : List Int) (hT : gq s rs) (HQ : QC rs lUO false 8 16 17 25 32 33 35 36 41) (HN : NC rs 33 33 [120]) (k41 : skip rs [0] 41 = 42 ∧ ah rs 42 = 123) (hs : s.size ≤ 4096) (hn8 : Ps.length ≤ 8) (q sx : Nat → Nat) (hq0 : q 0 = 43)
    (hne : ∀ i,i < Ps.length → aj rs (q i) ⟨#[125]⟩ = false ∧ an rs (q i) ⟨#[125]⟩ = sx i)
    (HITM : ∀ (i : Nat) P,Ps[i]? = some P → ∀ (b c : Nat) (A : Option Addr) w1,Sg w1 → Sc w1 b A c rs (sx i) → Calls prog 101 #[.agg #[.pointer (some ⟨b,0,none⟩)],.int .i64 (40 - 1)] w1 (ez P rs (q (i + 1)) w1 b A c))
    (hend : aj rs (q Ps.length) ⟨#[125]⟩ = true ∧ an rs (q Ps.length) ⟨#[125]⟩ = rs.length) (w : World) (hg : Sg w) :
    Calls prog 5 #[.string s] w (aI (PQi Ps) w) := by
 have ke : skip rs [0] rs.length = rs.length := bo (fun h => by omega);have hgr : az rs rs.length tGR = false := by
  unfold az;rw [ke,dP (i := 0) (by rw [dA]; decide) (by rw [Nat.add_zero,show ah rs rs.length = -1 by unfold ah; rw [if_neg jj]]; decide)];rfl
 refine nW (PQi Ps) (Dm HL) s rs.length w rs hT hs ke (fun b c A w1 hb hf1 hs1 => ?_);have hg1 := hg.frF hf1;have hgrp : ∀ w2,Fr (fun j => j = b) w1 w2 → Sc w2 b A c rs 41 → Calls prog 52 #[.agg #[.pointer (some ⟨b,0,none⟩)],.int .i64 40] w2 (lI (aH Ps) w2 b A c rs rs.length false 0) := fun w2 hf2 hs2 => by
  refine Calls.mono ?_ (fun e' w' (h : eR (aH Ps) w2 b A c rs rs.length e' w') => show (if false = true then _ else _) by rw [if_neg Bool.false_ne_true]; exact h);exact pC Ps HL 40 de de b c 41 42 q sx rs.length A rs w2 hn8 k41.1 k41.2 hq0 hne (fun i P hP w3 hg3 hs3 => HITM i P hP b c A w3 hg3 hs3) hend (hg1.frB hs1.blk de hf2) hs2
 refine (nV (aH Ps) (fl HL) rs lUO false ⟨#[120]⟩ ⟨#[]⟩ ⟨#[]⟩ 8 16 17 25 32 33 35 36 41 rs.length false 0 (HQ.text de de uo (fun b c A w h => kw [120] b c _ _ A _ w de HN.1 HN.2.1 HN.name h)) hgr b c A w1 hgrp hs1).mono (fun e' w' h => ?_);unfold dS at h;rw [if_neg Bool.false_ne_true] at h;obtain ⟨g,v,rfl,_,hgp,hsc,hf⟩ := h;rw [ke] at hsc;exact ⟨_,rfl,⟨g,v,rfl,hgp⟩,hsc,hf⟩
theorem qW (HS : er rs) {p : Nat} {a d a2 d2 : UInt8} {u u2 : ByteArray} (H : yd rs p) (Ha : gM rs (p + 2) a d) (hIa : dU rs (p + 2 + 2) (p + 2 + 8) u) (Hb : gM rs (p + 26) a2 d2) (hIb : dU rs (p + 26 + 2) (p + 26 + 8) u2) (b c : Nat) (A : Option Addr) (w : World) (hg : Sg w) (h : Sc w b A c rs p) :
    Calls prog 101 #[.agg #[.pointer (some ⟨b,0,none⟩)],.int .i64 (40 - 1)] w (ez (lZ (cC (.leaf 0 u) ⟨#[a]⟩ ⟨#[d]⟩) (cC (.leaf 0 u2) ⟨#[a2]⟩ ⟨#[d2]⟩)) rs (p + 42) w b A c) := by
 obtain ⟨k1,h1,n1,e1,w1',k2,h2,n2,e2,w2'⟩ := H;have LA : ∀ P ∈ [cC (.leaf 0 u) ⟨#[a]⟩ ⟨#[d]⟩],cO P := fun P hP => by rw [List.mem_singleton.1 hP]; exact aF _ _ _
 have LB : ∀ P ∈ [cC (.leaf 0 u2) ⟨#[a2]⟩ ⟨#[d2]⟩],cO P := fun P hP => by rw [List.mem_singleton.1 hP]; exact aF _ _ _
 refine Fa _ _ (40 - 1) rs p (p + 42) b c A w k1 h1 (fun w3 hg3 hs3 => ?_) (aF _ _ _) (aF _ _ _) hg h;refine sO _ _ (aF _ _ _) (aF _ _ _) (40 - 1) rs p (p + 17) (p + 23) (p + 41) (p + 42) b c A w3 (fun w4 hg4 hs4 => ?_) w1' (fun w4 hg4 hs4 => ?_) w2' hg3 hs3
 · exact pC _ LA (40 - 1) de de b c p p (fun i => if i = 0 then p + 1 else p + 15) (fun _ => p + 2) (p + 17) A rs w4 (by simp) k1 h1 rfl (fun i hi => by
    have : i = 0 := by simpa using hi
    subst this;exact n1) (fun i P hP w5 hg5 hs5 => by
    match i,hP with
    | 0,hP =>
     cases Option.some.inj hP
     exact cJ HS Ha hIa _ b c A w5 hg5 hs5
    | i + 1,hP => simp at hP) e1 hg4 hs4
 · exact pC _ LB (40 - 1) de de b c (p + 23) (p + 24) (fun i => if i = 0 then p + 25 else p + 39) (fun _ => p + 26) (p + 41) A rs w4 (by simp) k2 h2 rfl (fun i hi => by
    have : i = 0 := by simpa using hi
    subst this;exact n2) (fun i P hP w5 hg5 hs5 => by
    match i,hP with
    | 0,hP =>
     cases Option.some.inj hP
     exact cJ HS Hb hIb _ b c A w5 hg5 hs5
    | i + 1,hP => simp at hP) e2 hg4 hs4
def gT0 : ByteArray := ⟨#[82,69,71,73,83,84,69,82,32,82,83,84,82,69,65,77,32,60,117,58,111,62,32,65,83,32,83,69,76,69,67,84,32,63,120,32,87,72,69,82,69,32,123,32,63,120,32,60,117,58,112,62,32,63,116,32,46,32,63,116,32,60,117,58,113,62,32,63,121,32,46,32,125]⟩
def gL0 : List Int := txt gT0
theorem Bh : gq gT0 gL0 := ⟨dk,dk,dk,dk⟩
theorem pD : QC gL0 lUO false 8 16 17 25 32 33 35 36 41 ∧ NC gL0 33 33 [120] ∧ skip gL0 [0] 41 = 42 ∧ ah gL0 42 = 123 := dk
theorem uq : er gL0 := dk
theorem Dn : gM gL0 44 120 116 := dk
theorem Do : dU gL0 46 52 ⟨#[117,58,112]⟩ := dk
theorem Dp : gM gL0 58 116 121 := dk
theorem Dq : dU gL0 60 66 ⟨#[117,58,113]⟩ := dk
abbrev gP0 : List (World → Nat → List Value → Prop) := [cC (.leaf 0 ⟨#[117,58,112]⟩) ⟨#[120]⟩ ⟨#[116]⟩,cC (.leaf 0 ⟨#[117,58,113]⟩) ⟨#[116]⟩ ⟨#[121]⟩]
theorem sP : ∀ P ∈ gP0,cO P := by
 intro P hP;simp only [gP0,List.mem_cons,List.not_mem_nil,or_false] at hP;rcases hP with rfl | rfl
 all_goals first | exact aF _ _ _ | exact eU (aF _ _ _) (aF _ _ _)
theorem ye (w : World) (hg : Sg w) : Calls prog 5 #[.string gT0] w (aI (PQi gP0) w) :=
 dx gP0 sP gT0 gL0 Bh pD.1 pD.2.1 pD.2.2 de de (fun i => ([43,57,71] : List Nat).getD i 0) (fun i => ([44,58] : List Nat).getD i 0) rfl dk
  (fun i P hP b c A w1 hg hs => match i,hP,hs with
  | 0,hP,hs => by
   cases Option.some.inj hP
   exact cJ uq Dn Do _ b c A w1 hg hs
  | 1,hP,hs => by
   cases Option.some.inj hP
   exact cJ uq Dp Dq _ b c A w1 hg hs
  | i + 2,hP,_ => by simp at hP) dk w hg
def gT1 : ByteArray := ⟨#[82,69,71,73,83,84,69,82,32,82,83,84,82,69,65,77,32,60,117,58,111,62,32,65,83,32,83,69,76,69,67,84,32,63,120,32,87,72,69,82,69,32,123,32,63,120,32,60,117,58,112,62,32,63,116,32,46,32,63,121,32,60,117,58,112,62,32,63,116,32,46,32,125]⟩
def gL1 : List Int := txt gT1
theorem Bi : gq gT1 gL1 := ⟨dk,dk,dk,dk⟩
theorem pE : QC gL1 lUO false 8 16 17 25 32 33 35 36 41 ∧ NC gL1 33 33 [120] ∧ skip gL1 [0] 41 = 42 ∧ ah gL1 42 = 123 := dk
theorem ut : er gL1 := dk
theorem Dr : gM gL1 44 120 116 := dk
theorem Ds : dU gL1 46 52 ⟨#[117,58,112]⟩ := dk
theorem Dt : gM gL1 58 121 116 := dk
theorem Du : dU gL1 60 66 ⟨#[117,58,112]⟩ := dk
abbrev gP1 : List (World → Nat → List Value → Prop) := [cC (.leaf 0 ⟨#[117,58,112]⟩) ⟨#[120]⟩ ⟨#[116]⟩,cC (.leaf 0 ⟨#[117,58,112]⟩) ⟨#[121]⟩ ⟨#[116]⟩]
theorem sQ : ∀ P ∈ gP1,cO P := by
 intro P hP;simp only [gP1,List.mem_cons,List.not_mem_nil,or_false] at hP;rcases hP with rfl | rfl
 all_goals first | exact aF _ _ _ | exact eU (aF _ _ _) (aF _ _ _)
theorem yg (w : World) (hg : Sg w) : Calls prog 5 #[.string gT1] w (aI (PQi gP1) w) :=
 dx gP1 sQ gT1 gL1 Bi pE.1 pE.2.1 pE.2.2 de de (fun i => ([43,57,71] : List Nat).getD i 0) (fun i => ([44,58] : List Nat).getD i 0) rfl dk
  (fun i P hP b c A w1 hg hs => match i,hP,hs with
  | 0,hP,hs => by
   cases Option.some.inj hP
   exact cJ ut Dr Ds _ b c A w1 hg hs
  | 1,hP,hs => by
   cases Option.some.inj hP
   exact cJ ut Dt Du _ b c A w1 hg hs
  | i + 2,hP,_ => by simp at hP) dk w hg
def gT2 : ByteArray := ⟨#[82,69,71,73,83,84,69,82,32,82,83,84,82,69,65,77,32,60,117,58,111,62,32,65,83,32,83,69,76,69,67,84,32,63,120,32,87,72,69,82,69,32,123,32,123,32,63,120,32,60,117,58,112,62,32,63,121,32,46,32,125,32,85,78,73,79,78,32,123,32,63,120,32,60,117,58,113,62,32,63,121,32,46,32,125,32,125]⟩
def gL2 : List Int := txt gT2
theorem Bj : gq gT2 gL2 := ⟨dk,dk,dk,dk⟩
theorem pF : QC gL2 lUO false 8 16 17 25 32 33 35 36 41 ∧ NC gL2 33 33 [120] ∧ skip gL2 [0] 41 = 42 ∧ ah gL2 42 = 123 := dk
theorem Bl : er gL2 := dk
theorem Dv : gM gL2 46 120 121 := dk
theorem Dw : dU gL2 48 54 ⟨#[117,58,112]⟩ := dk
theorem Dx : gM gL2 70 120 121 := dk
theorem Dy : dU gL2 72 78 ⟨#[117,58,113]⟩ := dk
theorem Dz : yd gL2 44 := dk
abbrev gP2 : List (World → Nat → List Value → Prop) := [lZ (cC (.leaf 0 ⟨#[117,58,112]⟩) ⟨#[120]⟩ ⟨#[121]⟩) (cC (.leaf 0 ⟨#[117,58,113]⟩) ⟨#[120]⟩ ⟨#[121]⟩)]
theorem sR : ∀ P ∈ gP2,cO P := by
 intro P hP;simp only [gP2,List.mem_cons,List.not_mem_nil,or_false] at hP;rcases hP with rfl
 all_goals first | exact aF _ _ _ | exact eU (aF _ _ _) (aF _ _ _)
theorem yh (w : World) (hg : Sg w) : Calls prog 5 #[.string gT2] w (aI (PQi gP2) w) :=
 dx gP2 sR gT2 gL2 Bj pF.1 pF.2.1 pF.2.2 de de (fun i => ([43,86] : List Nat).getD i 0) (fun i => ([44] : List Nat).getD i 0) rfl dk
  (fun i P hP b c A w1 hg hs => match i,hP,hs with
  | 0,hP,hs => by
   cases Option.some.inj hP
   exact qW Bl Dz Dv Dw Dx Dy b c A w1 hg hs
  | i + 1,hP,_ => by simp at hP) dk w hg
def gT3 : ByteArray := ⟨#[82,69,71,73,83,84,69,82,32,82,83,84,82,69,65,77,32,60,117,58,111,62,32,65,83,32,83,69,76,69,67,84,32,63,120,32,87,72,69,82,69,32,123,32,63,121,32,60,117,58,97,62,32,63,120,32,46,32,125]⟩
def gL3 : List Int := txt gT3
theorem Bm : gq gT3 gL3 := ⟨dk,dk,dk,dk⟩
theorem pG : QC gL3 lUO false 8 16 17 25 32 33 35 36 41 ∧ NC gL3 33 33 [120] ∧ skip gL3 [0] 41 = 42 ∧ ah gL3 42 = 123 := dk
theorem Bn : er gL3 := dk
theorem DC : gM gL3 44 121 120 := dk
theorem DD : dU gL3 46 52 ⟨#[117,58,97]⟩ := dk
abbrev gP3 : List (World → Nat → List Value → Prop) := [cC (.leaf 0 ⟨#[117,58,97]⟩) ⟨#[121]⟩ ⟨#[120]⟩]
theorem sS : ∀ P ∈ gP3,cO P := by
 intro P hP;simp only [gP3,List.mem_cons,List.not_mem_nil,or_false] at hP;rcases hP with rfl
 all_goals first | exact aF _ _ _ | exact eU (aF _ _ _) (aF _ _ _)
theorem yi (w : World) (hg : Sg w) : Calls prog 5 #[.string gT3] w (aI (PQi gP3) w) :=
 dx gP3 sS gT3 gL3 Bm pG.1 pG.2.1 pG.2.2 de de (fun i => ([43,57] : List Nat).getD i 0) (fun i => ([44] : List Nat).getD i 0) rfl dk
  (fun i P hP b c A w1 hg hs => match i,hP,hs with
  | 0,hP,hs => by
   cases Option.some.inj hP
   exact cJ Bn DC DD _ b c A w1 hg hs
  | i + 1,hP,_ => by simp at hP) dk w hg
def gT4 : ByteArray := ⟨#[82,69,71,73,83,84,69,82,32,82,83,84,82,69,65,77,32,60,117,58,111,62,32,65,83,32,83,69,76,69,67,84,32,63,120,32,87,72,69,82,69,32,123,32,63,120,32,60,117,58,112,62,32,63,116,32,46,32,63,116,32,60,117,58,113,62,32,63,115,32,46,32,63,115,32,60,117,58,97,62,32,63,121,32,46,32,125]⟩
def gL4 : List Int := txt gT4
theorem Bo : gq gT4 gL4 := ⟨dk,dk,dk,dk⟩
theorem pH : QC gL4 lUO false 8 16 17 25 32 33 35 36 41 ∧ NC gL4 33 33 [120] ∧ skip gL4 [0] 41 = 42 ∧ ah gL4 42 = 123 := dk
theorem pI : er gL4 := dk
theorem DF : gM gL4 44 120 116 := dk
theorem DG : dU gL4 46 52 ⟨#[117,58,112]⟩ := dk
theorem DI : gM gL4 58 116 115 := dk
theorem DJ : dU gL4 60 66 ⟨#[117,58,113]⟩ := dk
theorem DK : gM gL4 72 115 121 := dk
theorem DL : dU gL4 74 80 ⟨#[117,58,97]⟩ := dk
abbrev gP4 : List (World → Nat → List Value → Prop) := [cC (.leaf 0 ⟨#[117,58,112]⟩) ⟨#[120]⟩ ⟨#[116]⟩,cC (.leaf 0 ⟨#[117,58,113]⟩) ⟨#[116]⟩ ⟨#[115]⟩,cC (.leaf 0 ⟨#[117,58,97]⟩) ⟨#[115]⟩ ⟨#[121]⟩]
theorem sT : ∀ P ∈ gP4,cO P := by
 intro P hP;simp only [gP4,List.mem_cons,List.not_mem_nil,or_false] at hP;rcases hP with rfl | rfl | rfl
 all_goals first | exact aF _ _ _ | exact eU (aF _ _ _) (aF _ _ _)
theorem yj (w : World) (hg : Sg w) : Calls prog 5 #[.string gT4] w (aI (PQi gP4) w) :=
 dx gP4 sT gT4 gL4 Bo pH.1 pH.2.1 pH.2.2 de de (fun i => ([43,57,71,85] : List Nat).getD i 0) (fun i => ([44,58,72] : List Nat).getD i 0) rfl dk
  (fun i P hP b c A w1 hg hs => match i,hP,hs with
  | 0,hP,hs => by
   cases Option.some.inj hP
   exact cJ pI DF DG _ b c A w1 hg hs
  | 1,hP,hs => by
   cases Option.some.inj hP
   exact cJ pI DI DJ _ b c A w1 hg hs
  | 2,hP,hs => by
   cases Option.some.inj hP
   exact cJ pI DK DL _ b c A w1 hg hs
  | i + 3,hP,_ => by simp at hP) dk w hg
def gT5 : ByteArray := ⟨#[82,69,71,73,83,84,69,82,32,82,83,84,82,69,65,77,32,60,117,58,111,62,32,65,83,32,83,69,76,69,67,84,32,63,120,32,87,72,69,82,69,32,123,32,63,120,32,60,117,58,112,62,32,63,116,32,46,32,123,32,63,116,32,60,117,58,113,62,32,63,121,32,46,32,125,32,85,78,73,79,78,32,123,32,63,116,32,60,117,58,112,62,32,63,121,32,46,32,125,32,125]⟩
def gL5 : List Int := txt gT5
theorem Bq : gq gT5 gL5 := ⟨dk,dk,dk,dk⟩
theorem pJ : QC gL5 lUO false 8 16 17 25 32 33 35 36 41 ∧ NC gL5 33 33 [120] ∧ skip gL5 [0] 41 = 42 ∧ ah gL5 42 = 123 := dk
theorem uv : er gL5 := dk
theorem DN : gM gL5 44 120 116 := dk
theorem DO : dU gL5 46 52 ⟨#[117,58,112]⟩ := dk
theorem DR : gM gL5 60 116 121 := dk
theorem DU : dU gL5 62 68 ⟨#[117,58,113]⟩ := dk
theorem DV : gM gL5 84 116 121 := dk
theorem DW : dU gL5 86 92 ⟨#[117,58,112]⟩ := dk
theorem DX : yd gL5 58 := dk
abbrev gP5 : List (World → Nat → List Value → Prop) := [cC (.leaf 0 ⟨#[117,58,112]⟩) ⟨#[120]⟩ ⟨#[116]⟩,lZ (cC (.leaf 0 ⟨#[117,58,113]⟩) ⟨#[116]⟩ ⟨#[121]⟩) (cC (.leaf 0 ⟨#[117,58,112]⟩) ⟨#[116]⟩ ⟨#[121]⟩)]
theorem sV : ∀ P ∈ gP5,cO P := by
 intro P hP;simp only [gP5,List.mem_cons,List.not_mem_nil,or_false] at hP;rcases hP with rfl | rfl
 all_goals first | exact aF _ _ _ | exact eU (aF _ _ _) (aF _ _ _)
theorem yk (w : World) (hg : Sg w) : Calls prog 5 #[.string gT5] w (aI (PQi gP5) w) :=
 dx gP5 sV gT5 gL5 Bq pJ.1 pJ.2.1 pJ.2.2 de de (fun i => ([43,57,100] : List Nat).getD i 0) (fun i => ([44,58] : List Nat).getD i 0) rfl dk
  (fun i P hP b c A w1 hg hs => match i,hP,hs with
  | 0,hP,hs => by
   cases Option.some.inj hP
   exact cJ uv DN DO _ b c A w1 hg hs
  | 1,hP,hs => by
   cases Option.some.inj hP
   exact qW uv DX DR DU DV DW b c A w1 hg hs
  | i + 2,hP,_ => by simp at hP) dk w hg
theorem Bw (eb db sb : Nat) (ma : Option Nat) (Bd rd : Nat) (vt : Value) (ts : List Tm) (room : Int) (Bs : Nat) (rs : Nat → Value) (ls : Nat → List Edge) (sroom : Int) (idx : Nat → Nat) (x y u : ByteArray) (ss : List ByteArray) (b : Nat) (w : World) (hC : EvC w eb db sb ma Bd rd vt ts room Bs rs ls sroom) (hs : (Tm.iri u).short) (hlen : ∀ n,(aT ls n).length ≤ 4096) (h0 : ∀ n,∀ k ∈ aT ls n,0 ≤ k.1 ∧ 0 ≤ k.2.1 ∧ 0 ≤ k.2.2)
    (hn : qM w b [(x,none),(⟨#[]⟩,some u),(y,none)]) (hnm : aC [(x,none),(⟨#[]⟩,some u),(y,none)] = [x,y]) (hi0 : Lib.idxOfS [x,y] x = 0) (hi1 : Lib.idxOfS [x,y] ⟨#[]⟩ = -1) (hi2 : Lib.idxOfS [x,y] y = 1)
    (hss : ded (df [x,y]) = ss) (hsl : ss.length = 2) (hix : ∀ k,k < 2 → idx k < 2 ∧ [x,y].getD (idx k) ByteArray.empty = ss.getD k ByteArray.empty ∧ ∀ j,j < idx k → [x,y].getD j ByteArray.empty ≠ ss.getD k ByteArray.empty) :
    Calls prog 169 #[.pointer (some ⟨eb,0,none⟩),.slice (some ⟨b,0,none⟩) 3 3,fromV db sb ma] w (aQ w 2 ss (((py ts ls u).map fun k => [k.1,k.2.2]).map (dI idx 2))) := by
 unfold py;by_cases h : eH ts (.iri u) = 0
 · rw [if_pos h];exact sI eb db sb ma Bd rd vt ts room Bs rs ls sroom idx x y u ss b w hC hs h (hlen _) (h0 _) hn hnm hi0 hi1 hi2 hss hsl hix
 · rw [if_neg h];exact vK eb db sb ma Bd rd vt ts room Bs rs ls sroom idx x y u ss b w hC hs h hn hnm hi0 hi1 hi2 hss hsl hix
theorem qX (eb db sb : Nat) (ma : Option Nat) (x y u : ByteArray) (m : Nat) (ss : List ByteArray) (R0 : List (List Int)) (z : Array Value) (w : World) (hz : z = (gJ x y 0 u none 0 0).toArray)
    (HK : ∀ W b,Fr (fun _ => False) w W → qM W b [(x,none),(⟨#[]⟩,some u),(y,none)] → Calls prog 169 #[.pointer (some ⟨eb,0,none⟩),.slice (some ⟨b,0,none⟩) 3 3,fromV db sb ma] W (aQ W m ss R0)) :
    Calls prog 125 #[.pointer (some ⟨eb,0,none⟩),.agg z,fromV db sb ma] w (aQ w m ss R0) := by
 have z1 : z[1]? = some (.string x) := by rw [hz]; rfl
 have z2 : z[2]? = some .nilIface := by rw [hz]; rfl
 have z3 : z[3]? = some (.string ⟨#[]⟩) := by rw [hz]; rfl
 have z5 : z[5]? = some (.string y) := by rw [hz]; rfl
 have z6 : z[6]? = some .nilIface := by rw [hz]; rfl
 have z7 : z[7]? = some (.int .i64 0) := by rw [hz]; rfl
 have z8 : z[8]? = some (.string u) := by rw [hz]; rfl
 have HKK := Hd HK;unfold aQ at HKK;have hb1 : Blk ((w.alloc (.cells z 180)).alloc (.cells #[.slice none 0 0,.slice none 0 0] 47)) (w.heap.size + 1) 47 #[.slice none 0 0,.slice none 0 0] := by
  have h := Blk.new (w.alloc (.cells z 180)) 47 #[.slice none 0 0,.slice none 0 0];simpa using h
 have HB1 := Hd hb1;have hz0 := al2 w (.cells z 180) (.cells #[.slice none 0 0,.slice none 0 0] 47);have HF0 := Hd (show Fr (fun _ => False) w ((w.alloc (.cells z 180)).alloc (.cells #[.slice none 0 0,.slice none 0 0] 47)) from ((Fr.refl _ w).alloc _).alloc _);have HBL := Hd (Blk.new ((w.alloc (.cells z 180)).alloc (.cells #[.slice none 0 0,.slice none 0 0] 47)) 171 #[.string x,.nilIface,.string ⟨#[]⟩,.iface 207 (.agg #[.string u]),.string y,.nilIface]);rw [hz0] at HBL;clear hz HK hb1;go_enter func125,ntmps125;go_wp2_with fail;refine (HKK _ _ (HF0.alloc _) HBL).mono ?_;rintro e w1 ⟨tv,rfl,⟨OV,oc,ovr,ovals,rfl,hv,hr⟩,hf1⟩;obtain ⟨OA,oac,hor⟩ := ad hr.own;subst hor;have F1 := (HF0.alloc (.cells #[.string x,.nilIface,.string ⟨#[]⟩,.iface 207 (.agg #[.string u]),.string y,.nilIface] 171)).trans' hf1;have hbs := (HB1.alloc (.cells #[.string x,.nilIface,.string ⟨#[]⟩,.iface 207 (.agg #[.string u]),.string y,.nilIface] 171)).fr hf1 id;have f0 := hbs.frozen 0;have cc0 := hbs.c0;have HEND := Hd (di hbs (by simp; omega) hv hr F1 jj);have cc1 := HEND.1;have f12 := HEND.2.1;clear hbs hv hr hf1 F1;go_wp2_with fail;exact bodyPost_ret (v := .agg #[.slice OV m oc,.slice OA R0.length oac]) (results_cell_row rfl _ _ (w.heap.size + 1) 47 _ (0,0) _ rfl HEND.2.2.2.1 underlying47 rfl kr) rfl HEND.2.2.2.2
/-! Machines: plain. -/
abbrev Mv := Int × Bool × Bool × Nat
abbrev MS := List (List Mv)
def dJ (row : List Mv) : List Nat := (row.filter fun m => m.2.2.1).map (·.2.2.2)
def l5 (n : Int) (b : Bool) (m : Mv) : Bool := !m.2.2.1 && (m.1 == n && m.2.1 == b)
def cK (row : List Mv) (n : Int) (b : Bool) : List Nat := (row.filter (l5 n b)).map (·.2.2.2)
def fW (mv : MS) (i : Nat) (m : Mv) : MS := mv.set i (mv.getD i [] ++ [m])
def bz (mv : MS) (i j : Nat) : MS := fW mv i (0,false,true,j)
def MOk (mv : MS) : Prop := ∀ row ∈ mv,∀ m ∈ row,m.2.2.2 < mv.length
def msz (mv : MS) : Nat := (mv.map (fun r => r.length + 1)).sum
theorem kg (mv : MS) (i : Nat) (m : Mv) : (fW mv i m).length = mv.length := by simp [fW]
theorem fm (mv : MS) : msz (mv ++ [[]]) = msz mv + 1 := by simp [msz]
theorem jK : ∀ mv : MS,mv.length ≤ msz mv
 | [] => Nat.le_refl _
 | r :: mv => by have := jK mv; simp [msz] at this ⊢; omega
theorem jL : ∀ (mv : MS) (i : Nat),(mv.getD i []).length ≤ msz mv
 | [],i => by simp
 | r :: mv,0 => by simp [msz]; omega
 | r :: mv,i + 1 => by have := jL mv i; simp [msz] at this ⊢; omega
theorem gx : ∀ (mv : MS) (i : Nat) (m : Mv),i < mv.length → msz (fW mv i m) = msz mv + 1
 | [],i,m,h => by simp at h
 | r :: mv,0,m,h => by simp [msz,fW]; omega
 | r :: mv,i + 1,m,h => by
  have := gx mv i m (by simpa using h);simp [msz,fW] at this ⊢;omega
def dfs (mv : MS) : Nat → List Nat → List Bool → List Nat → Option (List Nat)
 | 0,wait,_,out => if wait = [] then some out else none
 | f + 1,wait,seen,out =>
  match wait.getLast? with
  | none => some out
  | some s => if seen.getD s false = true then dfs mv f wait.dropLast seen out else dfs mv f (wait.dropLast ++ dJ (mv.getD s [])) (seen.set s true) (out ++ [s])
def clo (mv : MS) (l : List Nat) : Option (List Nat) := dfs mv 100 l (List.replicate mv.length false) []
/-! The six machines. -/
def mvK (kind : Nat) (p q a : Int) : MS :=
 match kind with
 | 0 => [[(p,false,false,1)],[(q,false,false,2)],[]]
 | 1 => [[(p,false,false,1)],[(p,true,false,2)],[]]
 | 2 => [[(0,false,true,2),(0,false,true,4)],[],[(p,false,false,3)],[(0,false,true,1)],[(q,false,false,5)],[(0,false,true,1)]]
 | 3 => [[(a,true,false,1)],[]]
 | 4 => [[(p,false,false,1)],[(q,false,false,2)],[(a,false,false,3)],[]]
 | _ => [[(p,false,false,1)],[(0,false,true,3),(0,false,true,5)],[],[(q,false,false,4)],[(0,false,true,2)],[(p,false,false,6)],[(0,false,true,2)]]
def BA (kind : Nat) : Nat := match kind with | 0 => 2 | 1 => 2 | 2 => 1 | 3 => 1 | 4 => 3 | _ => 2
theorem DY : ∀ kind : Nat,(BA kind : Int) = iG kind
 | 0 => rfl
 | 1 => rfl
 | 2 => rfl
 | 3 => rfl
 | 4 => rfl
 | _ + 5 => rfl
theorem CB (kind : Nat) (p q a : Int) : MOk (mvK kind p q a) := by
 unfold MOk mvK;split <;> simp
 all_goals (intro a b h; omega)
theorem yl (kind : Nat) (p q a : Int) : msz (mvK kind p q a) ≤ 100 := by
 unfold msz mvK;split <;> simp
theorem Fb (kind : Nat) (p q a : Int) : (mvK kind p q a).length ≤ 7 := by
 unfold mvK;split <;> simp
theorem Fc (kind : Nat) (p q a : Int) : ∃ l,clo (mvK kind p q a) [0] = some l ∧ ∀ t : Int,t ∈ l.map (fun (n : Nat) => (n : Int)) ↔ t ∈ iF kind := by
 match kind with
 | 0 => exact ⟨[0],rfl,by simp [iF]⟩
 | 1 => exact ⟨[0],rfl,by simp [iF]⟩
 | 2 => exact ⟨[0,4,2],rfl,by intro t; simp [iF]; omega⟩
 | 3 => exact ⟨[0],rfl,by simp [iF]⟩
 | 4 => exact ⟨[0],rfl,by simp [iF]⟩
 | k + 5 => exact ⟨[0],rfl,by intro t; simp [iF]⟩
theorem DZ (kind : Nat) (p q a : Int) (s : Nat) (n : Int) (b : Bool) : ∃ l,clo (mvK kind p q a) (cK ((mvK kind p q a).getD s []) n b) = some l ∧ ∀ t : Int,t ∈ l.map (fun (n : Nat) => (n : Int)) ↔ t ∈ nxK kind p q a (s : Int) n b := by
 have one : ∀ (c : Int) (d : Bool) (k : Nat),cK [(c,d,false,k)] n b = if n = c ∧ b = d then [k] else [] := by
  intro c d k;unfold cK l5;by_cases h : n = c ∧ b = d
  · rw [if_pos h];simp [h.1,h.2]
  · rw [if_neg h];have : (c == n && d == b) = false := by
     simp;intro h1 h2;exact h ⟨h1.symm,h2.symm⟩
    simp [this]
 have oth : ∀ (mv : MS) (L : List Int),cK (mv.getD s []) n b = [] → L = [] → ∃ l,clo mv (cK (mv.getD s []) n b) = some l ∧ ∀ t : Int,t ∈ l.map (fun (n : Nat) => (n : Int)) ↔ t ∈ L := by
  intro mv L h1 h2;rw [h1,h2];exact ⟨[],rfl,by simp⟩
 have yes : ∀ (mv : MS) (L : List Int) (P : Prop) [Decidable P] (k : Nat) (l : List Nat),cK (mv.getD s []) n b = (if P then [k] else []) → clo mv [k] = some l → (P → ∀ t : Int,t ∈ l.map (fun (n : Nat) => (n : Int)) ↔ t ∈ L) → (¬ P → L = []) → ∃ l,clo mv (cK (mv.getD s []) n b) = some l ∧ ∀ t : Int,t ∈ l.map (fun (n : Nat) => (n : Int)) ↔ t ∈ L := by
  intro mv L P _ k l h1 h2 h3 h4;by_cases h : P
  · rw [h1,if_pos h];exact ⟨l,h2,h3 h⟩
  · rw [h1,if_neg h,h4 h];exact ⟨[],rfl,by simp⟩
 match kind with
 | 0 =>
  match s with
  | 0 => exact yes _ _ _ 1 [1] (one p false 1) rfl (fun h => by simp [nxK,h]) (fun h => by simpa [nxK] using h)
  | 1 => exact yes _ _ _ 2 [2] (one q false 2) rfl (fun h => by simp [nxK,h]) (fun h => by simpa [nxK] using h)
  | 2 => exact oth _ _ rfl (by simp [nxK])
  | s + 3 => exact oth _ _ rfl (by simp only [nxK]; repeat rw [if_neg (fun h => by have := h.1; omega)])
 | 1 =>
  match s with
  | 0 => exact yes _ _ _ 1 [1] (one p false 1) rfl (fun h => by simp [nxK,h]) (fun h => by simpa [nxK] using h)
  | 1 => exact yes _ _ _ 2 [2] (one p true 2) rfl (fun h => by simp [nxK,h]) (fun h => by simpa [nxK] using h)
  | 2 => exact oth _ _ rfl (by simp [nxK])
  | s + 3 => exact oth _ _ rfl (by simp only [nxK]; repeat rw [if_neg (fun h => by have := h.1; omega)])
 | 2 =>
  match s with
  | 0 => exact oth _ _ rfl (by simp [nxK])
  | 1 => exact oth _ _ rfl (by simp [nxK])
  | 2 => exact yes _ _ _ 3 [3,1] (one p false 3) rfl (fun h t => by simp [nxK,h]; omega) (fun h => by simpa [nxK] using h)
  | 3 => exact oth _ _ rfl (by simp [nxK])
  | 4 => exact yes _ _ _ 5 [5,1] (one q false 5) rfl (fun h t => by simp [nxK,h]; omega) (fun h => by simpa [nxK] using h)
  | 5 => exact oth _ _ rfl (by simp [nxK])
  | s + 6 => exact oth _ _ rfl (by simp only [nxK]; repeat rw [if_neg (fun h => by have := h.1; omega)])
 | 3 =>
  match s with
  | 0 => exact yes _ _ _ 1 [1] (one a true 1) rfl (fun h => by simp [nxK,h]) (fun h => by simpa [nxK] using h)
  | 1 => exact oth _ _ rfl (by simp [nxK])
  | s + 2 => exact oth _ _ rfl (by simp only [nxK]; repeat rw [if_neg (fun h => by have := h.1; omega)])
 | 4 =>
  match s with
  | 0 => exact yes _ _ _ 1 [1] (one p false 1) rfl (fun h => by simp [nxK,h]) (fun h => by simpa [nxK] using h)
  | 1 => exact yes _ _ _ 2 [2] (one q false 2) rfl (fun h => by simp [nxK,h]) (fun h => by simpa [nxK] using h)
  | 2 => exact yes _ _ _ 3 [3] (one a false 3) rfl (fun h => by simp [nxK,h]) (fun h => by simpa [nxK] using h)
  | 3 => exact oth _ _ rfl (by simp [nxK])
  | s + 4 => exact oth _ _ rfl (by simp only [nxK]; repeat rw [if_neg (fun h => by have := h.1; omega)])
 | k + 5 =>
  match s with
  | 0 => exact yes _ _ _ 1 [1,5,3] (one p false 1) rfl (fun h t => by simp [nxK,h]; omega) (fun h => by simpa [nxK] using h)
  | 1 => exact oth _ _ rfl (by simp [nxK])
  | 2 => exact oth _ _ rfl (by simp [nxK])
  | 3 => exact yes _ _ _ 4 [4,2] (one q false 4) rfl (fun h t => by simp [nxK,h]; omega) (fun h => by simpa [nxK] using h)
  | 4 => exact oth _ _ rfl (by simp [nxK])
  | 5 => exact yes _ _ _ 6 [6,2] (one p false 6) rfl (fun h t => by simp [nxK,h]; omega) (fun h => by simpa [nxK] using h)
  | 6 => exact oth _ _ rfl (by simp [nxK])
  | s + 7 => exact oth _ _ rfl (by simp only [nxK]; repeat rw [if_neg (fun h => by have := h.1; omega)])
def mvC (m : Mv) : List Value := [.int .i64 m.1,.bool m.2.1,.bool m.2.2.1,.int .i64 (m.2.2.2 : Int)]
def cP (row : List Mv) : List Value := row.flatMap mvC
theorem qY (row : List Mv) (m : Mv) : cP (row ++ [m]) = cP row ++ mvC m := by simp [cP]
theorem g9 : ∀ (row : List Mv) (j : Nat) (m : Mv) (k : Nat),row[j]? = some m → k < 4 → (cP row)[j * 4 + k]? = (mvC m)[k]?
 | [],j,m,k,h,_ => by simp at h
 | a :: row,0,m,k,h,hk => by
  simp only [List.getElem?_cons_zero,Option.some.injEq] at h;subst h;have : cP (a :: row) = mvC a ++ cP row := rfl;rw [this,List.getElem?_append_left (by simp [mvC]; omega)];simp
 | a :: row,j + 1,m,k,h,hk => by
  have : cP (a :: row) = mvC a ++ cP row := rfl;rw [this,List.getElem?_append_right (by simp [mvC]; omega)];rw [show (j + 1) * 4 + k - (mvC a).length = j * 4 + k by simp [mvC]; omega];exact g9 row j m k (by simpa using h) hk
structure bI (w : World) (B : Nat) (v : Value) (vals : List Value) (mv : MS) : Prop where
 own : w.ownsRow B 471 1 v mv.length vals
 each : ∀ i,i < mv.length → w.ownsRow B 474 4 (vals.getD i undef) (mv.getD i []).length (cP (mv.getD i []))
 dist : ∀ i j,i < mv.length → j < mv.length → i ≠ j → ∀ k,(vals.getD i undef).ownBlock = some k → (vals.getD j undef).ownBlock ≠ some k
theorem bI.len {mv : MS} (h : bI w B v vals mv) : vals.length = mv.length := by have := h.own.1; simpa using this
theorem bI.fr {mv : MS} (h : bI w B v vals mv) (hf : Fr S w w') (h1 : ∀ k,v.ownBlock = some k → ¬ S k) (h2 : ∀ i,i < mv.length → ∀ k,(vals.getD i undef).ownBlock = some k → ¬ S k) : bI w' B v vals mv :=
 ⟨aa h.own hf h1,fun i hi => aa (h.each i hi) hf (h2 i hi),h.dist⟩
theorem bI.frF {mv : MS} (h : bI w B v vals mv) (hf : Fr (fun _ => False) w w') : bI w' B v vals mv :=
 h.fr hf ii (fun _ _ _ _ h => h)
theorem bI.frB {tb : Nat} {mv : MS} {t : TypeId} {cs : Array Value} (h : bI w B v vals mv) (hb : Blk w tb t cs) (h1 : 471 ≠ t) (h2 : 474 ≠ t) (hf : Fr (fun j => j = tb) w w') : bI w' B v vals mv :=
 h.fr hf (fun k hk e => ac h.own hb h1 (by rw [hk,e])) (fun i hi k hk e => ac (h.each i hi) hb h2 (by rw [hk,e]))
theorem bI.new {mv : MS} (h : bI w B v vals mv) (o : Obj)
    (hown : w6.ownsRow B 471 1 v6 (mv.length + 1) (vals ++ [.slice none 0 0])) (hg : (w.alloc o).grownBy w6 v.ownBlock) : bI w6 B v6 (vals ++ [.slice none 0 0]) (mv ++ [[]]) := by
 have hf : Fr (fun j => v.ownBlock = some j) w w6 := ((Fr.refl _ w).alloc o).trans (Fr.of_grown hg) ii;have hl := h.len;have hp : (∀ i,i < mv.length → (vals ++ [Value.slice none 0 0]).getD i undef = vals.getD i undef) ∧ (vals ++ [Value.slice none 0 0]).getD mv.length undef = .slice none 0 0 := by
  refine ⟨fun i hi => ?_,?_⟩
  · rw [List.getD_eq_getElem?_getD,List.getElem?_append_left jj,← List.getD_eq_getElem?_getD]
  · rw [List.getD_eq_getElem?_getD,List.getElem?_append_right jj,hl]; simp
 have hq : (∀ i,i < mv.length → (mv ++ [([] : List Mv)]).getD i [] = mv.getD i []) ∧ (mv ++ [([] : List Mv)]).getD mv.length [] = [] := by
  refine ⟨fun i hi => ?_,?_⟩
  · rw [List.getD_eq_getElem?_getD,List.getElem?_append_left jj,← List.getD_eq_getElem?_getD]
  · rw [List.getD_eq_getElem?_getD,List.getElem?_append_right jj]; simp
 refine ⟨by rw [List.length_append]; exact hown,fun i hi => ?_,fun i j hi hj hij k hk => ?_⟩
 · rw [List.length_append,List.length_singleton] at hi;by_cases e : i < mv.length
   · rw [hp.1 i e,hq.1 i e];exact aa (h.each i e) hf (fun k hk hn => aw h.own (h.each i e) de hn hk)
   · have e2 : i = mv.length := jj;subst e2;rw [hp.2,hq.2];exact World.ownsRow_nil _ _ _ _
 · rw [List.length_append,List.length_singleton] at hi hj;by_cases e : i < mv.length
   · by_cases e2 : j < mv.length
     · rw [hp.1 j e2];rw [hp.1 i e] at hk;exact h.dist i j e e2 hij k hk
     · have e3 : j = mv.length := jj;subst e3;rw [hp.2];intro hk2;cases hk2
   · have e3 : i = mv.length := jj;subst e3;rw [hp.2] at hk;cases hk
theorem sW {α : Type} {l : List α} {x d : α} : (∀ i,i < l.length → (l ++ [x]).getD i d = l.getD i d) ∧ (l ++ [x]).getD l.length d = x :=
 ⟨fun i hi => by rw [List.getD_eq_getElem?_getD,List.getElem?_append_left hi,← List.getD_eq_getElem?_getD],by rw [List.getD_eq_getElem?_getD,List.getElem?_append_right (Nat.le_refl _)]; simp⟩
theorem kh {α : Type} {l : List α} {x d : α} {k : Nat} (hk : k < l.length) : (∀ i,i ≠ k → (l.set k x).getD i d = l.getD i d) ∧ (l.set k x).getD k d = x :=
 ⟨fun i hi => by rw [List.getD_eq_getElem?_getD,List.getElem?_set_ne (Ne.symm hi),← List.getD_eq_getElem?_getD],by rw [List.getD_eq_getElem?_getD,List.getElem?_set_self hk]; rfl⟩
theorem bI.put {mv : MS} {m : Mv} (h : bI w B (.slice (some ⟨og,0,none⟩) n cap) vals mv) (hk : k < mv.length)
    (hown : w6.ownsRow B 474 4 v6 ((mv.getD k []).length + 1) (cP (mv.getD k []) ++ mvC m)) (hf : Fr (fun j => (vals.getD k undef).ownBlock = some j) w w6)
    (hat : (vals.getD k undef).ownBlock = v6.ownBlock ∨ ∃ b,v6.ownBlock = some b ∧ w.heap.size ≤ b) :
    bI (w6.setCell ⟨og,k,none⟩ v6) B (.slice (some ⟨og,0,none⟩) n cap) (vals.set k v6) (fW mv k m) := by
 have hl := h.len;have hf2 : Fr (fun j => j = og) w6 (w6.setCell ⟨og,k,none⟩ v6) := (Fr.refl (fun j => j = og) w6).setCell ⟨og,k,none⟩ (fun _ => rfl) v6;have hp := @kh _ vals v6 undef k jj;have hq := @kh _ mv (mv.getD k [] ++ [m]) [] k hk;have hnl : n = mv.length := by
  obtain ⟨A,c',e⟩ := ad h.own;injection e
 have hob : ∀ j,(Value.slice (some ⟨og,0,none⟩) n cap).ownBlock = some j ↔ og = j := fun j => by
  constructor
  · intro e;exact Option.some.inj e
  · intro e;rw [← e];rfl
 have hrk := h.each k hk;have hown6 := aa h.own hf (fun j hj hn => aw hrk h.own de hn hj);rw [← hnl] at hown6;have hst := (hown6.stored k v6).1;have fresh : ∀ i,i < mv.length → ∀ b,(vals.getD i undef).ownBlock = some b → b < w.heap.size := fun i hi b hb => ((h.each i hi).lt b hb).2;have am : fW mv k m = mv.set k (mv.getD k [] ++ [m]) := rfl;rw [am];have hne : ∀ b,v6.ownBlock = some b → ∀ j,j < mv.length → j ≠ k → (vals.getD j undef).ownBlock ≠ some b := fun b hb j hj hjk hb2 => by
  rcases hat with h3 | h3
  · exact h.dist k j hk hj (Ne.symm hjk) b (h3.trans hb) hb2
  · have := fresh j hj b hb2;obtain ⟨b',h4,h5⟩ := h3;rw [h4] at hb;injection hb with hb;omega
 refine ⟨by rw [List.length_set,← hnl]; exact hst,fun i hi => ?_,fun i j hi hj hij b hb => ?_⟩
 · rw [List.length_set] at hi;by_cases e : i = k
   · subst e;rw [hp.2,hq.2];rw [List.length_append,List.length_singleton,qY];exact aa hown hf2 (fun j hj hn => aw hown hown6 de hj ((hob j).2 hn.symm))
   · rw [hp.1 i e,hq.1 i e];have hr6 := aa (h.each i hi) hf (fun j hj hn => h.dist k i hk hi (Ne.symm e) j hn hj);exact aa hr6 hf2 (fun j hj hn => aw hr6 hown6 de hj ((hob j).2 hn.symm))
 · rw [List.length_set] at hi hj;by_cases e : i = k
   · subst e;rw [hp.2] at hb;rw [hp.1 j (Ne.symm hij)];exact hne b hb j hj (Ne.symm hij)
   · rw [hp.1 i e] at hb;by_cases e2 : j = k
     · subst e2;rw [hp.2];exact fun h4 => hne b h4 i hi e hb
     · rw [hp.1 j e2];exact h.dist i j hi hj hij b hb
theorem uw : (prog.info? 474).map (fun i => (i.zero,i.size,i.bytes)) = some (some (.agg #[.int .i64 0,.bool false,.bool false,.int .i64 0]),4,32) := kr
theorem BB : (prog.info? 471).map (fun i => (i.zero,i.size,i.bytes)) = some (some (.slice none 0 0),1,24) := kr
structure ym (w : World) (B : Nat) (K : Nat → Prop) (mb : Nat) (mv : MS) (s e : Int) (v : Value) (vals : List Value) : Prop where
 blk : Blk w mb 452 #[v,.int .i64 s,.int .i64 e]
 mvs : bI w B v vals mv
 own : K mb
 row : ∀ k,v.ownBlock = some k → K k
 rows : ∀ i,i < mv.length → ∀ k,(vals.getD i undef).ownBlock = some k → K k
 base : ∀ k,K k → B ≤ k
def b6 (w : World) (B : Nat) (K : Nat → Prop) (mb : Nat) (mv : MS) (s e : Int) : Prop := ∃ v vals,ym w B K mb mv s e v vals
theorem b6.mono {K' : Nat → Prop} {mv : MS} (h : b6 w B K mb mv s e) (hK : ∀ k,k < w.heap.size → K k → K' k) (hb : ∀ k,K' k → B ≤ k) : b6 w B K' mb mv s e := by
 obtain ⟨v,vals,h⟩ := h;exact ⟨v,vals,h.blk,h.mvs,hK _ h.blk.lt h.own,fun k hk => hK _ (h.mvs.own.lt k hk).2 (h.row k hk),fun i hi k hk => hK _ ((h.mvs.each i hi).lt k hk).2 (h.rows i hi k hk),hb⟩
theorem b6.fr {mv : MS} (h : b6 w B K mb mv s e) (hf : Fr S w w') (hS : ∀ j,j < w.heap.size → S j → ¬ K j) : b6 w' B K mb mv s e := by
 obtain ⟨v,vals,h⟩ := h;exact ⟨v,vals,h.blk.fr hf (fun hs => hS _ h.blk.lt hs h.own),h.mvs.fr hf (fun k hk hs => hS _ (h.mvs.own.lt k hk).2 hs (h.row k hk)) (fun i hi k hk hs => hS _ ((h.mvs.each i hi).lt k hk).2 hs (h.rows i hi k hk)),h.own,h.row,h.rows,h.base⟩
theorem b6.frF {mv : MS} (h : b6 w B K mb mv s e) (hf : Fr (fun _ => False) w w') : b6 w' B K mb mv s e := h.fr hf uu
def KN (K : Nat → Prop) (w : World) (j : Nat) : Prop := (K j ∧ j < w.heap.size) ∨ w.heap.size ≤ j
def MSt (B : Nat) (K : Nat → Prop) (mb : Nat) (mv : MS) (s e : Int) (w w' : World) : Prop := b6 w' B (KN K w) mb mv s e ∧ Fr K w w'
def nY (B : Nat) (K : Nat → Prop) (mb : Nat) (mv : MS) (s e : Int) (r : Value) (w : World) (e' : Ending) (w' : World) : Prop := e' = .returned r ∧ MSt B K mb mv s e w w'
def K1 (K : Nat → Prop) (w w1 : World) (j : Nat) : Prop := KN K w j ∧ j < w1.heap.size
theorem b6.base {mv : MS} (h : b6 w B K mb mv s e) : ∀ k,K k → B ≤ k := by
 obtain ⟨v,vals,h⟩ := h;exact h.base
theorem MSt.start {mv : MS} (h : b6 w B K mb mv s e) (hB : B ≤ w.heap.size) : MSt B K mb mv s e w w :=
 ⟨h.mono (fun k hk h => .inl ⟨h,hk⟩) (fun k hk => hk.elim (fun h2 => h.base k h2.1) (fun h2 => Nat.le_trans hB h2)),Fr.refl _ _⟩
theorem MSt.mach {mv : MS} (h : MSt B K mb mv s e w w1) (hf : Fr (fun _ => False) w1 w1') : b6 w1' B (K1 K w w1) mb mv s e :=
 (h.1.mono (K' := K1 K w w1) (fun k hk h2 => ⟨h2,hk⟩) (fun k hk => h.1.base k hk.1)).frF hf
theorem MSt.comp {mv mv' : MS} {s' e' : Int} {w2 : World} (h1 : MSt B K mb mv s e w w1) (hf : Fr (fun _ => False) w1 w1') (h2 : MSt B (K1 K w w1) mb mv' s' e' w1' w2) : MSt B K mb mv' s' e' w w2 := by
 have hs1 := h1.2.size;have hs2 := hf.size;refine ⟨h2.1.mono (fun k hk h3 => ?_) (h1.1.base),(h1.2.trans hf uu).trans h2.2 (fun i hi h3 => ?_)⟩
 · rcases h3 with h3 | h3
   · exact h3.1.1
   · exact .inr jj
 · rcases h3.1 with h4 | h4
   · exact h4.1
   · omega
theorem MSt.keep {mv : MS} {g : Nat} {t : TypeId} {cs : Array Value} (h : MSt B K mb mv s e w w') (hb : Blk w g t cs) (hg : ¬ K g) : Blk w' g t cs := hb.fr h.2 hg
theorem qZ {c0 i : Nat} {mv : MS} {row : List Mv} {m : Mv} (h : ym w B K mb mv s e (.slice (some ⟨og,0,none⟩) mv.length c0) vals) (hB : B ≤ w.heap.size) (hi : i < mv.length) (hrow : row = mv.getD i [])
    (hown : w8.ownsRow B 474 4 (.slice (some ⟨g8,0,none⟩) (row.length + 1) cap) (row.length + 1) (cP row ++ mvC m)) (F8 : Fr (fun k => (vals.getD i undef).ownBlock = some k) w w8) (hor : (vals.getD i undef).ownBlock = some g8 ∨ w.heap.size ≤ g8) :
    MSt B K mb (fW mv i m) s e w (w8.setCell ⟨og,i,none⟩ (.slice (some ⟨g8,0,none⟩) (row.length + 1) cap)) := by
 have HM := h.mvs;have HB := h.blk;have hri := HM.each i hi;have hmv := HM.put (m := m) hi (v6 := .slice (some ⟨g8,0,none⟩) (row.length + 1) cap) (w6 := w8) (by rw [← hrow]; exact hown) F8 (hor.imp id (fun h => ⟨g8,rfl,h⟩));have hb8 := HB.fr F8 (fun hn => ac hri HB de hn);have HB9 := hb8.fr ((Fr.refl (fun j => j = og) w8).setCell ⟨og,i,none⟩ (fun _ => rfl) (.slice (some ⟨g8,0,none⟩) (row.length + 1) cap)) (fun hn => ac HM.own HB de (by rw [hn]; rfl));have HF9 : Fr K w (w8.setCell ⟨og,i,none⟩ (.slice (some ⟨g8,0,none⟩) (row.length + 1) cap)) := (F8.mono (T := K) (fun k _ hk => h.rows i hi k hk)).setCell ⟨og,i,none⟩ (fun _ => h.row og rfl) _;have HOR : KN K w g8 := hor.elim (fun h2 => .inl ⟨h.rows i hi g8 h2,(hri.lt g8 h2).2⟩) (fun h => .inr h);have HSS := @kh _ vals (.slice (some ⟨g8,0,none⟩) (row.length + 1) cap) undef i (by have := HM.len; omega);refine ⟨⟨_,_,HB9,hmv,.inl ⟨h.own,HB.lt⟩,fun k hk => .inl ⟨h.row k hk,(HM.own.lt k hk).2⟩,fun i2 hi2 k hk => ?_,fun k hk => hk.elim (fun h2 => h.base k h2.1) (fun h2 => Nat.le_trans hB h2)⟩,HF9⟩;rw [kg] at hi2;by_cases he : i2 = i
 · rw [he,HSS.2] at hk;injection hk with hk;exact hk ▸ HOR
 · rw [HSS.1 i2 he] at hk;exact .inl ⟨h.rows i2 hi2 k hk,((HM.each i2 hi2).lt k hk).2⟩
theorem jM (B : Nat) (K : Nat → Prop) (mb : Nat) (mv : MS) (s e : Int) (w : World) (h : b6 w B K mb mv s e) (hB : B ≤ w.heap.size) (hlen : mv.length ≤ 4096) :
    Calls prog 349 #[.pointer (some ⟨mb,0,none⟩)] w (nY B K mb (mv ++ [[]]) s e (.int .i64 (mv.length : Int)) w) := by
 obtain ⟨v,vals,HMA⟩ := h;have hb := HMA.blk;have hm := HMA.mvs;have HMA := Hd HMA;obtain ⟨i1,hi1,hz1,hz2,hz3⟩ := info_parts BB;obtain ⟨A0,c0,hvt⟩ := ad hm.own;subst hvt;have b0 := hb.c0;have HM := Hd hm;have HB := Hd hb;clear hb hm;go_enter func349,ntmps349;go_wp2_with (at_builtin; refine wpList_append_own_at _ rfl _ _ 450 rfl B 471 i1 _ 1 24 underlying450 hi1 hz1 hz2 hz3 rfl de _ mv.length vals (by rfl) (HM.own.alloc _) ⟨w.heap.size,0,none⟩ 1 1 [.slice none 0 0] (by rfl) rfl (World.news_of_block (heap_alloc_new w _)) (by intro u hu; rw [List.mem_singleton] at hu; rw [hu]; rfl) (by unfold maxLen; omega) jj (by simp; omega) ?_; intro v6 w6 hown6 hgr6 _ hat6; obtain ⟨A6,c6,hv6⟩ := ad hown6; subst hv6; have hb6 := (HB.alloc (.cells #[.slice none 0 0] 471)).fr (Fr.of_grown hgr6) (fun h => ac HM.own HB.out de h); have f16 : w6.frozen? ⟨mb,0,none⟩ = false := hb6.frozen 0; have c16 := hb6.c0; have hbl6 := hb6.lt; have HB6 := Hd hb6; clear hb6);have hs := (Fr.refl (fun j => j = mb) w6).setCell ⟨mb,0,none⟩ (fun _ => rfl) (.slice A6 (mv.length + 1) c6);have HB7 := Hd (show Blk (w6.setCell ⟨mb,0,none⟩ (.slice A6 (mv.length + 1) c6)) mb 452 #[.slice A6 (mv.length + 1) c6,.int .i64 s,.int .i64 e] from HB6.set_ 0 _);have HM7 := Hd ((HM.new _ hown6 hgr6).frB HB6.out de de hs);have HF7 := Hd (show Fr K w (w6.setCell ⟨mb,0,none⟩ (.slice A6 (mv.length + 1) c6)) from (((Fr.refl _ w).alloc _).grown hgr6 (fun k _ hk => HMA.row k hk)).setCell ⟨mb,0,none⟩ (fun _ => HMA.own) _);have HAT := Hd hat6;have HKN := Hd (show ∀ k,KN K w k → B ≤ k from fun k hk => hk.elim (fun h => HMA.base k h.1) (fun h => by omega));have HPP := Hd (@sW _ vals (.slice none 0 0) undef);clear hown6 hgr6 hat6 hs;go_wp2_with fail;go_ret;refine ⟨by go_num,⟨_,_,HB7,HM7,.inl ⟨HMA.own,HB.lt⟩,fun k hk => ?_,fun i hi k hk => ?_,HKN⟩,HF7⟩
 · rcases HAT.out with h | h
   · rw [h] at hk;exact .inl ⟨HMA.row k hk,(HM.own.lt k hk).2⟩
   · rw [h] at hk;injection hk with hk;exact .inr (by rw [← hk]; simp)
 · rw [List.length_append,List.length_singleton] at hi;have hln := HM.len;by_cases he : i < mv.length
   · rw [HPP.out.1 i jj] at hk;exact .inl ⟨HMA.rows i he k hk,((HM.each i he).lt k hk).2⟩
   · have e2 : i = vals.length := jj;rw [e2,HPP.out.2] at hk;cases hk
theorem ux (B : Nat) (K : Nat → Prop) (mb : Nat) (mv : MS) (s e : Int) (i j : Nat) (w : World) (h : b6 w B K mb mv s e) (hB : B ≤ w.heap.size) (hlen : msz mv ≤ 4096) (hi : i < mv.length) :
    Calls prog 367 #[.pointer (some ⟨mb,0,none⟩),.int .i64 (i : Int),.int .i64 (j : Int)] w (nY B K mb (bz mv i j) s e (.tuple #[]) w) := by
 obtain ⟨v,vals,HMA⟩ := h;have hb := HMA.blk;have hm := HMA.mvs;have HMA := Hd HMA;obtain ⟨i1,hi1,hz1,hz2,hz3⟩ := info_parts uw;obtain ⟨A0,c0,hvt⟩ := ad hm.own;subst hvt;obtain ⟨og,rfl,hoc,_,_⟩ := ar hm.own jj;have hrz := jL mv i;have hri := hm.each i hi;have b0 := hb.c0;have o0 : w.cell? ⟨og,i,none⟩ = some (vals.getD i undef) := by
  have hln := hm.len;rw [World.ownsRow.cellAt hm.own i jj,List.getD_eq_getElem?_getD,List.getElem?_eq_getElem jj];rfl
 obtain ⟨x,hx⟩ : ∃ x,x = vals.getD i undef := ⟨_,rfl⟩;obtain ⟨row,hrow⟩ : ∃ row,row = mv.getD i [] := ⟨_,rfl⟩;rw [← hx] at o0 hri;rw [← hrow] at hri hrz;obtain ⟨A1,c1,hxv⟩ := ad hri;have HX := Hd hx;have HROW := Hd hrow;have hil : (i : Int) < (mv.length : Int) := jj;have hbl := hb.lt;have HM := Hd hm;have HB := Hd hb;subst hxv;have HR := Hd hri;clear hb hm hri hx hrow;go_enter func367,ntmps367;go_wp2_with fail
 go_region_law (first
  | (refine step_append_lies _ (by rfl) _ _ 471 (by rfl) B 474 i1 _ 4 32 underlying471 hi1 hz1 hz2 hz3 rfl de _ row.length (cP row) (by rfl) (HR.alloc _) _ 1 1 (mvC (0,false,true,j)) (by rfl) rfl (World.news_of_block (heap_alloc_new _ _)) (by intro u hu; simp only [mvC,List.mem_cons,List.not_mem_nil,or_false] at hu; rcases hu with rfl | rfl | rfl | rfl <;> rfl) de (by unfold maxLen; omega) jj (by simp; omega) _ rfl ?_; intro g8 cap w8 hown8 hgr8 hor8 hlt8; have F8 : Fr (fun k => (Value.slice A1 row.length c1).ownBlock = some k) w w8 := Fr.trans (S := fun k => (Value.slice A1 row.length c1).ownBlock = some k) (by repeat' (first | exact Fr.refl _ _ | refine Fr.drew ?_ | refine Fr.alloc ?_ _)) (Fr.of_grown hgr8) ii; have hown2 := aa HM.own F8 (fun k hk hn => aw HR.out HM.own de hn hk); have o8 : w8.cell? ⟨og,i,none⟩ = some (.slice A1 row.length c1) := (World.cell?_of_block (F8.block og (HM.own.lt og rfl).2 (fun hn => aw HR.out HM.own de hn rfl))).trans o0; have of8 : w8.frozen? ⟨og,i,none⟩ = false := World.ownsRow.frozenAt hown2 i; have ol8 := (hown2.lt og rfl).2; have m8 := (HB.fr F8 (fun hn => ac HR.out HB.out de hn)).c0)
  | fail)
 all_goals
  have HP := Hd (qZ HMA.out hB hi HROW.out hown8 (by rw [← HX.out]; exact F8) (by rw [← HX.out]; exact hor8.imp id (fun h => by rw [h]; simp)));clear F8 hown8 hgr8 hor8 hlt8 hown2 o8 of8 ol8 m8
  try go_simp
  go_end0;exact ⟨rfl,HP⟩
theorem vP (k n : Int) (A : Option Addr) (m c : Nat) (w : World) : Calls prog 366 #[.agg #[.int .i64 k,.int .i64 n,.slice A m c]] w fun e w' => e = .returned (.agg #[.int .i64 n,.bool (k == 1)]) ∧ Fr (fun _ => False) w w' := by
 have hx := (Blk.new w 332 #[.int .i64 k,.int .i64 n,.slice A m c]).alloc (.cells #[.int .i64 0,.bool false] 459);have x0 := hx.cell 0;have x1 := hx.cell 1;simp only [List.getElem?_toArray,List.getElem?_cons_zero,List.getElem?_cons_succ] at x0 x1;clear hx;go_enter func366,ntmps366;go_wp2_with fail;have h2 := Blk.new (w.alloc (.cells #[.int .i64 k,.int .i64 n,.slice A m c] 332)) 459 #[.int .i64 n,.bool (k == 1)];rw [show (w.alloc (.cells #[.int .i64 k,.int .i64 n,.slice A m c] 332)).heap.size = w.heap.size + 1 by simp] at h2;exact bodyPost_ret (v := .agg #[.int .i64 n,.bool (k == 1)]) (results_cell_row rfl _ _ (w.heap.size + 1) 459 _ (0,0) _ rfl h2 underlying459 rfl kr) rfl ⟨rfl,((Fr.refl _ w).alloc _).alloc _⟩
theorem yo (B : Nat) (K : Nat → Prop) (mb : Nat) (mv : MS) (s e : Int) (k : Int) (hk : k = 0 ∨ k = 1) (n : Int) (i : Nat) (w : World) (h : b6 w B K mb mv s e) (hB : B ≤ w.heap.size) (hlen : msz mv ≤ 4000) (hi : i < mv.length) :
    Calls prog 350 #[.pointer (some ⟨mb,0,none⟩),.agg #[.int .i64 k,.int .i64 n,.slice none 0 0],.int .i64 (i : Int)] w (nY B K mb (fW (mv ++ [[]]) i (n,k == 1,false,mv.length)) s e (.int .i64 (mv.length : Int)) w) := by
 obtain ⟨i1,hi1,hz1,hz2,hz3⟩ := info_parts uw;have hf0 := Fr.a1 w (.cells #[.int .i64 k,.int .i64 n,.slice none 0 0] 332);have hmz := jK mv;have hst := MSt.start h hB;have HST := Hd hst;have HS := Hd (jM B _ mb mv s e _ (hst.mach hf0) (by simp; omega) jj);have hx := Blk.new w 332 #[.int .i64 k,.int .i64 n,.slice none 0 0];have HX := Hd hx;have x0 := hx.c0;have HF0 := Hd hf0;have hnk : ¬ K1 K w w w.heap.size := fun h => by have := h.2; omega
 have HNK := Hd hnk;have hsz0 := al1 w (.cells #[.int .i64 k,.int .i64 n,.slice none 0 0] 332);have hsy := fun A m c w => vP k n A m c w;clear hx hf0 h hst hnk;obtain ⟨kb,hkb⟩ : ∃ kb : Bool,kb = (k == 1) := ⟨_,rfl⟩;rw [← hkb];rw [← hkb] at hsy;have HSY := Hd hsy;clear hkb hsy;rcases hk with rfl | rfl
 all_goals
  go_enter func350,ntmps350;go_wp2_with (go_at_call 349; refine HS.mono ?_; rintro e' w1 ⟨rfl,hst1⟩);have hx1 := hst1.keep HX.out HNK.out;have HST1 := Hd hst1;obtain ⟨v,vals,hma⟩ := hst1.mach (Fr.refl _ w1);have hm := hma.mvs;have hb := hma.blk;have HMA := Hd hma;obtain ⟨mv1,hmv1⟩ : ∃ mv1,mv1 = mv ++ [[]] := ⟨_,rfl⟩;have hl1 : mv1.length = mv.length + 1 := by rw [hmv1]; simp
  have hz1m : msz mv1 = msz mv + 1 := by rw [hmv1,fm]
  rw [← hmv1] at hm HMA HST1;have HMV1 := Hd hmv1;have hszw1 := HST1.2.size;rw [hsz0] at hszw1;have HXF := Hd hx1;clear hst1 hma hmv1 HS x0;obtain ⟨A0,c0,hvt⟩ := ad hm.own;subst hvt;obtain ⟨og,rfl,hoc,_,_⟩ := ar hm.own jj;have hi1' : i < mv1.length := jj;have hrz := jL mv1 i;have hri := hm.each i hi1';have o0 : w1.cell? ⟨og,i,none⟩ = some (vals.getD i undef) := by
   have hln := hm.len;rw [World.ownsRow.cellAt hm.own i jj,List.getD_eq_getElem?_getD,List.getElem?_eq_getElem jj];rfl
  obtain ⟨x,hx⟩ : ∃ x,x = vals.getD i undef := ⟨_,rfl⟩;obtain ⟨row,hrow⟩ : ∃ row,row = mv1.getD i [] := ⟨_,rfl⟩;rw [← hx] at o0 hri;rw [← hrow] at hri hrz;obtain ⟨A1,c1,hxv⟩ := ad hri;have HX2 := Hd hx;have HROW := Hd hrow;have hil : (i : Int) < (mv.length : Int) + 1 := jj;have HM := Hd hm;have HB := Hd hb;subst hxv;have HR := Hd hri;have hx1 := HXF.out;have x0 := hx1.cell 0;have x1 := hx1.cell 1;have x2 := hx1.cell 2;simp only [List.getElem?_toArray,List.getElem?_cons_zero,List.getElem?_cons_succ] at x0 x1 x2;have hB1 : B ≤ w1.heap.size := jj;clear hb hm hri hx hrow hx1;have HSX := Hd (show ∀ wy,Fr (fun k => (Value.slice A1 row.length c1).ownBlock = some k ∨ k = og) w1 wy → wy.cell? ⟨mb,0,none⟩ = some (.slice (some ⟨og,0,none⟩) mv1.length c0) ∧ wy.cell? ⟨w.heap.size,0,none⟩ = w1.cell? ⟨w.heap.size,0,none⟩ ∧ wy.cell? ⟨w.heap.size,1,none⟩ = some (.int .i64 n) ∧ wy.cell? ⟨w.heap.size,2,none⟩ = some (.slice none 0 0) from fun wy hf => by
   have hb2 := HB.fr hf (fun h => h.elim (fun h => ac HR.out HB.out de h) (fun h => ac HM.own HB.out de (by rw [h]; rfl)));have hx2 := HXF.fr hf (fun h => h.elim (fun h => ac HR.out HXF.out de h) (fun h => ac HM.own HXF.out de (by rw [h]; rfl)));exact ⟨hb2.cell 0,(hx2.cell 0).trans (HXF.cell 0).symm,hx2.cell 1,hx2.cell 2⟩)
  go_wp2_with fail;refine wp_region_noPanic ?_;refine wp_region_held_drew (S := (fun wy => wy.cell? ⟨mb,0,none⟩ = some (.slice (some ⟨og,0,none⟩) mv1.length c0) ∧ wy.cell? ⟨w.heap.size,0,none⟩ = w1.cell? ⟨w.heap.size,0,none⟩ ∧ wy.cell? ⟨w.heap.size,1,none⟩ = some (.int .i64 n) ∧ wy.cell? ⟨w.heap.size,2,none⟩ = some (.slice none 0 0))) kr ?_ (fun hHeld => ?_)
  · try dsimp only
    first | exact HSX _ (Fr.refl _ _).drew | exact HSX _ (F2.mono uu) | exact HSX _ ((F2.mono uu).alloc _) | exact HSX _ (F8.mono (fun _ _ h => .inl h)) | exact HSX _ ((F8.mono (fun _ _ h => .inl h)).setCell _ (fun _ => .inr rfl) _)
  refine oT 0 ?_;refine oT 1 ?_;refine oT 2 ?_;refine oT 3 ?_;refine oT 4 ?_;refine oT 5 ?_;refine oT 6 ?_;refine oT 7 ?_;refine oT 8 ?_;refine oT 9 ?_;refine oT 10 ?_;refine oT 12 ?_;refine oT 14 ?_
  repeat' (first
   | exact .nil
   | refine oC (fun K hK => ?_) ?_
   | refine oU 15 ?_ | refine oU 18 ?_ | refine oS [11,13] ?_ | refine oS [11,16] ?_ | refine oS [11] ?_ | refine oS [13] ?_ | refine oS [16] ?_ | refine oS [17] ?_ | refine oS [19] ?_
   | (refine oD (NoPanic.normal ?_) dk
      have HP := Hd (qZ (m := (n,kb,false,mv.length)) HMA.out hB1 hi1' HROW.out hown8 (by rw [← HX2.out]; exact F8) (by rw [← HX2.out]; exact hor8.imp id (fun h => by rw [h]; have := F2.size; simp; omega)));clear F8 hown8 hgr8 hor8 hlt8 hown2 o8 of8 ol8 F2 hR2 o2 ho2l hs2;go_wp2_with fail;go_ret;exact ⟨rfl,by rw [← HMV1.out]; exact MSt.comp HST.out HF0 (MSt.comp HST1 (Fr.refl _ _) HP)⟩)
   | ((first
       | (refine step_append_lies _ (by rfl) _ _ 471 (by rfl) B 474 i1 _ 4 32 underlying471 hi1 hz1 hz2 hz3 rfl de _ row.length (cP row) (by rfl) (hR2.alloc _) _ 1 1 (mvC (n,kb,false,mv.length)) (by rfl) rfl (World.news_of_block (heap_alloc_new _ _)) (by intro u hu; simp only [mvC,List.mem_cons,List.not_mem_nil,or_false] at hu; rcases hu with rfl | rfl | rfl | rfl <;> rfl) de (by unfold maxLen; omega) jj (by simp; omega) _ rfl ?_
          intro g8 cap w8 hown8 hgr8 hor8 hlt8;have F8 : Fr (fun k => (Value.slice A1 row.length c1).ownBlock = some k) w1 w8 := Fr.trans (S := fun k => (Value.slice A1 row.length c1).ownBlock = some k) ((F2.mono uu).alloc _) (Fr.of_grown hgr8) ii;have hown2 := aa HM.own F8 (fun k hk hn => aw HR.out HM.own de hn hk);have o8 : w8.cell? ⟨og,i,none⟩ = some (.slice A1 row.length c1) := (World.cell?_of_block (F8.block og (HM.own.lt og rfl).2 (fun hn => aw HR.out HM.own de hn rfl))).trans o0;have of8 : w8.frozen? ⟨og,i,none⟩ = false := World.ownsRow.frozenAt hown2 i;have ol8 := (hown2.lt og rfl).2)
       | (go_simp
          go_at_call 366;refine (HSY.out none 0 0 _).mono ?_;rintro e2 w2 ⟨rfl,hf2⟩;have F2 : Fr (fun _ => False) w1 w2 := Fr.trans' (S := fun _ => False) fw hf2;have hR2 := aa HR.out F2 ii;have o2 : w2.cell? ⟨og,i,none⟩ = some (.slice A1 row.length c1) := aG F2 o0;have ho2l := (aa HM.own F2 ii).lt og rfl;have hs2 := F2.size)
       | go_simp)
      refine oK hK ?_ fun hHeld => ?_
      · try dsimp only
        first | exact HSX _ (Fr.refl _ _).drew | exact HSX _ (F2.mono uu) | exact HSX _ ((F2.mono uu).alloc _) | exact HSX _ (F8.mono (fun _ _ h => .inl h)) | exact HSX _ ((F8.mono (fun _ _ h => .inl h)).setCell _ (fun _ => .inr rfl) _)
      clear hK K))
end Go.Proofs.YtfaapkpebnagmaaGreatDoor
