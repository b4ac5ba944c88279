/- Texts of the proof, one behind the other: Bl, Bo, Bq, Fr, Ra, Rb, Rd, Rg, Br, Rj, Rm, Rq, Rs, Mp, Ta, Tc, Xa, Xd. -/
import Derived.Test.YtfaapkpebnagmaaGreatDoorXk
import Derived.Laws.IdiomStrings
import Derived.Laws.AppendOwn
import Derived.Defers
import Derived.Recover
import Derived.Laws.Pointers
import Derived.Great.BuildSlice
import Derived.Great.Walk
import Derived.Lib.Overlaps
import Derived.Lib.AppendZerosOnto
import Derived.Shelf.Spec.SlicesInsert
import Derived.Sort.OwnSorted
namespace Go.Proofs.YtfaapkpebnagmaaGreatDoor
open _root_.Go.Proofs.Tryz
open Go.RowKit Go
set_option linter.unusedVariables false
set_option linter.unusedSimpArgs false
set_option maxRecDepth 100000
set_option maxHeartbeats 400000000
variable {w w' : World} {g B o n a p m e size d c : Nat} {rs : List Int} {cs cur : Array Value} {ty t : TypeId} {x y : ByteArray} {S : Nat → Prop} {l xs : List Value} {ss : List ByteArray} {v : Value} {k r s : Int}
theorem aM {w0 : World} {b t : Nat} (h : Blk w g t cs) (hg : w0.heap.size ≤ g) (hb : b < w0.heap.size) (hf : Fr (fun j => j = b) w w') : Blk w' g t cs := h.fr hf (by omega)
theorem xo : (prog.info? 33).map (·.size) = some 7 := kr
def r4 : ByteArray := ⟨#[82,69,71,73,83,84,69,82]⟩
def tRS : ByteArray := ⟨#[82,83,84,82,69,65,77]⟩
def tIS : ByteArray := ⟨#[73,83,84,82,69,65,77]⟩
def tDS : ByteArray := ⟨#[68,83,84,82,69,65,77]⟩
def tAS : ByteArray := ⟨#[65,83]⟩
def r7 : ByteArray := ⟨#[83,69,76,69,67,84]⟩
def r8 : ByteArray := ⟨#[68,73,83,84,73,78,67,84]⟩
def qw : ByteArray := ⟨#[70,82,79,77]⟩
def tWH : ByteArray := ⟨#[87,72,69,82,69]⟩
def tGR : ByteArray := ⟨#[71,82,79,85,80]⟩
structure xp (rs : List Int) (l : List UInt8) (dis : Bool) (sv : Value) (p1 p2 s2 p4 p5 p6 p7 s7 p8 : Nat) : Prop where
 reg : az rs 0 r4 = true ∧ aK rs 0 r4 = p1
 kind : az rs p1 tRS = true ∧ aK rs p1 tRS = p2 ∧ skip rs [0] (skip rs [0] p1) = skip rs [0] p1 ∧ az rs (skip rs [0] p1) tRS = true ∧ aK rs (skip rs [0] p1) tRS = p2
 iri : skip rs [0] p2 = s2 ∧ skip rs [0] s2 = s2 ∧ ql rs s2 l ∧ l ≠ [] ∧ l.length ≤ 4000 ∧ (Tm.iri ⟨l.toArray⟩).good = true
 asx : az rs (s2 + l.length + 2) tAS = true ∧ aK rs (s2 + l.length + 2) tAS = p4
 sel : az rs p4 r7 = true ∧ aK rs p4 r7 = p5
 dis : az rs p5 r8 = dis ∧ aK rs p5 r8 = p6
 one : ∀ (b c : Nat) (A : Option Addr) (w : World),Sc w b A c rs p6 → Calls prog 49 #[.agg #[.pointer (some ⟨b,0,none⟩)]] w (aV w b A c rs p7 sv)
 nxt : skip rs [0] p7 = s7 ∧ skip rs [0] s7 = s7 ∧ ah rs s7 ≠ 63 ∧ ah rs s7 ≠ 40
 frm : az rs s7 qw = false
 whr : az rs s7 tWH = true ∧ aK rs s7 tWH = p8
def dS (G : World → Nat → Value → Prop) (w : World) (b : Nat) (A : Option Addr) (c : Nat) (rs : List Int) (q : Nat) (deep : Bool) (pl : Int) (kind t : ByteArray) (dis : Bool) (sv : Value) (e : Ending) (w' : World) : Prop :=
 if deep = true then rW pl 15 e ∧ Fr (fun j => j = b) w w'
 else ∃ g v,e = .returned (.agg #[.string kind,.string t,.bool dis,.slice (some ⟨g,0,none⟩) 1 1,.slice none 0 0,v,.slice none 0 0]) ∧ Blk w' g 130 sv.cells ∧ G w' w.heap.size v ∧ Sc w' b A c rs q ∧ Fr (fun j => j = b) w w'
def eR (G : World → Nat → Value → Prop) (w : World) (b : Nat) (A : Option Addr) (c : Nat) (rs : List Int) (q : Nat) (e : Ending) (w' : World) : Prop :=
 ∃ v,e = .returned (.agg #[v]) ∧ G w' w.heap.size v ∧ Sc w' b A c rs q ∧ Fr (fun j => j = b) w w'
def lI (G : World → Nat → Value → Prop) (w : World) (b : Nat) (A : Option Addr) (c : Nat) (rs : List Int) (q : Nat) (deep : Bool) (pl : Int) (e : Ending) (w' : World) : Prop :=
 if deep = true then rW pl 15 e ∧ Fr (fun j => j = b) w w' else eR G w b A c rs q e w'
section
theorem EP (x : Value) (w : World) : (Instr.typeAssert (.iface 122 x) 20 122 false).run prog w = .ok x w := kr
theorem Aq (p c : Value) (w : World) : (Instr.field 122 (.agg #[p,c]) 0).run prog w = .ok p w := kr
theorem As (p c : Value) (w : World) : (Instr.field 122 (.agg #[p,c]) 1).run prog w = .ok c w := kr
attribute [local go_sem] EP Aq As
theorem sd (rb eb : Nat) (w : World) :
    CallsD prog 40 #[.pointer (some ⟨rb,0,none⟩),.pointer (some ⟨eb,0,none⟩)] .returning w fun e u' w' => e = .returned (.tuple #[]) ∧ u' = .returning ∧ w' = w := by
 refine callsD_of_wpS func40 rfl fun c₀ cs hu => ?_;apply wpS_seq;apply wpS_region;simp [wpOpsS,go_sem,recoverD,hu,ntmps40,Exit.thenS];apply wpS_seq;apply wpS_region;simp [wpOpsS,go_sem,Exit.thenS];refine wpS_cond (t := false) (by simp [Act.eval,Array.replicate]) ?_;simp only [Bool.false_eq_true,if_false];refine wpS_of_wp (wp_skip ?_);cases c₀
 simp_all [bodyPostS,results,Tryz.results40]
def Kept (PW : World → Prop) : Prop := (∀ w1 w2,PW w1 → Fr (fun _ => False) w1 w2 → PW w2) ∧ ∀ w1 w2 x t cs,PW w1 → Blk w1 x t cs → (t = 204 ∨ t = 3 ∨ t = 34) → Fr (fun j => j = x) w1 w2 → PW w2
end
theorem lJ (s : ByteArray) : ∀ n p a,s.size - p ≤ n → Conv.runesFrom s n p a = a ++ ((runesFrom s p).map (Value.int .i32)).toArray
 | 0,p,a,h => by
  rw [dq s p (by omega)];simp [Conv.runesFrom]
 | n + 1,p,a,h => by
  rw [Conv.runesFrom];by_cases hp : p < s.size
  · have hw := width_pos s p hp;rw [if_pos hp,eQ s p hp];dsimp only;rw [lJ s n (p + (Utf8.decode s p).2) _ jj];apply Array.ext';simp
  · rw [if_neg hp,dq s p hp];simp
theorem nD (s : ByteArray) : ∀ n p,s.size - p ≤ n → (runesFrom s p).length ≤ s.size - p
 | 0,p,h => by
  rw [dq s p (by omega)];exact Nat.zero_le _
 | n + 1,p,h => by
  by_cases hp : p < s.size
  · have hw := width_pos s p hp;have := nD s n (p + (Utf8.decode s p).2) jj;rw [eQ s p hp,List.length_cons];omega
  · rw [dq s p hp];exact Nat.zero_le _
structure gq (s : ByteArray) (rs : List Int) : Prop where
 runes : runesFrom s 0 = rs
 good : aZ s 0 = true
 signs : ∀ x,x ∈ rs → Lib.validRune x = true ∧ 0 ≤ x
 pos : 0 < rs.length
theorem gq.le {s : ByteArray} (h : gq s rs) : rs.length ≤ s.size := by
 have := nD s s.size 0 jj;rw [h.runes] at this;omega
theorem Au (s : ByteArray) (rs : List Int) (w : World) (h : gq s rs) (hs : s.size ≤ 4096) : Calls prog 39 #[.string s] w fun e w' => ∃ b g c,e = .returned (.tuple #[.pointer (some ⟨b,0,none⟩),.int .i64 0,.int .i64 0]) ∧ w.heap.size ≤ b ∧ Sc w' b (some ⟨g,0,none⟩) c rs 0 ∧ Fr (fun _ => False) w w' := by
 have HW := Hd (mZ s w hs);have hr := lJ s s.size 0 #[] jj;rw [Array.empty_append,h.runes] at hr;have hle := h.le;have HCV := Hd (fun w1 => run_runes_of_string (P := prog) w1 9 202 21 s underlying9 underlying202 underlying21 (by rw [hr]; simp; omega));rw [hr] at HCV;have hsz : ((rs.map (Value.int .i32)).toArray).size = rs.length := by simp
 rw [hsz] at HCV;have HT := Hd h.good;have HV := Hd h.signs;have h0' := h.pos;have hs' : rs.length ≤ 4096 := jj;clear hr hsz h hle;go_enter func39,ntmps39;go_wp2_with fail;refine HW.mono ?_;rintro e w1 ⟨n,rfl,hn,hf1⟩;rw [HT.out] at hn;have hn0 : n < 0 := by simpa using hn
 have hcv := HCV.out w1;have hge := grownCap_ge w1 rs.length 0 21;have hle := grownCap_le_maxLen w1 rs.length 0 21 (by unfold maxLen; omega);generalize grownCap w1 rs.length 0 21 = cap at *;have hb0 := Blk.new w1.drew 21 ((rs.map (Value.int .i32)).toArray ++ Array.replicate (cap - rs.length) (.int .i32 0));have HROW := Hd (show (w1.drew.alloc (.cells ((rs.map (Value.int .i32)).toArray ++ Array.replicate (cap - rs.length) (.int .i32 0)) 21)).ownsRow 0 21 1 (.slice (some ⟨w1.heap.size,0,none⟩) rs.length cap) rs.length (rs.map (.int .i32)) from
  ⟨by simp,.inr ⟨w1.heap.size,cap,_,rfl,Nat.zero_le _,hb0,hge,hle,by simp; omega,by simp⟩⟩)
 have HF1 := Hd (show Fr (fun _ => False) w (w1.drew.alloc (.cells ((rs.map (Value.int .i32)).toArray ++ Array.replicate (cap - rs.length) (.int .i32 0)) 21)) from (hf1.drew).alloc _);have hz : (w1.drew.alloc (.cells ((rs.map (Value.int .i32)).toArray ++ Array.replicate (cap - rs.length) (.int .i32 0)) 21)).heap.size = w1.heap.size + 1 := by simp
 generalize w1.drew.alloc (.cells ((rs.map (Value.int .i32)).toArray ++ Array.replicate (cap - rs.length) (.int .i32 0)) 21) = w2 at *;clear hb0 hn;have hsz1 := hf1.size;clear hf1;go_wp2_with fail;go_ret3;have hb2 := Blk.new w2 204 #[.slice (some ⟨w1.heap.size,0,none⟩) rs.length cap,.int .i64 0];rw [hz] at hb2;exact ⟨_,_,_,rfl,by omega,⟨hb2,HROW.alloc _,Nat.zero_le _,hs',h0',HV⟩,HF1.alloc _⟩
def mkI (rs : List Int) (p : Nat) (T : ByteArray) : Int := if aj rs p T = true then (an rs p T : Int) else -1
section
structure i6 (rs : List Int) : Prop where
 n : 8 ≤ rs.length
 s1 : ah rs (rs.length - 1) = 125
 s2 : ah rs (rs.length - 2) = 32
 s3 : ah rs (rs.length - 3) = 46
 s4 : ah rs (rs.length - 4) = 32
 s5 : ah rs (rs.length - 5) = 121
 s6 : ah rs (rs.length - 6) = 63
 s7 : ah rs (rs.length - 7) = 32
inductive PT where
 | leaf (kind : Int) (iri : ByteArray)
 | node (kind : Int) (parts : List PT)
inductive PAt (ty : TypeId) (w : World) (B : Nat) : PT → List Value → Prop
 | leaf (k : Int) (i : ByteArray) : PAt ty w B (.leaf k i) [.int .i64 k,.string i,.slice none 0 0]
 | node (k : Int) (ts : List PT) (A : Option Addr) (c : Nat) (L : List (List Value)) (hL : L.length = ts.length) (hp : ∀ (i : Nat) t l,ts[i]? = some t → L[i]? = some l → PAt ty w B t l) (hr : w.ownsRow B ty 3 (.slice A ts.length c) ts.length L.flatten) :
  PAt ty w B (.node k ts) [.int .i64 k,.string ⟨#[]⟩,.slice A ts.length c]
theorem PAt.fr (hf : Fr S w w') (hS : ∀ j cs,B ≤ j → Blk w j ty cs → ¬ S j) {t : PT} {l : List Value} (h : PAt ty w B t l) : PAt ty w' B t l := by
 induction h with
 | leaf k i => exact .leaf k i
 | node k ts A c L hL hp hr ih =>
  refine .node k ts A c L hL ih (aa hr hf fun j hj hSj => ?_);rcases hr.2 with ⟨h0,_⟩ | ⟨gg,cap,cur,hv,hbg,hh,_⟩
  · rw [h0] at hj;cases hj
  · rw [hv] at hj;injection hj with hj;subst hj;exact hS gg cur hbg hh hSj
theorem PAt.base {B' : Nat} (hB : B' ≤ B) {t : PT} {l : List Value} (h : PAt ty w B t l) : PAt ty w B' t l := by
 induction h with
 | leaf k i => exact .leaf k i
 | node k ts A c L hL hp hr ih => exact .node k ts A c L hL ih (ai hr hB)
theorem PAt.frF {t : PT} (h : PAt ty w B t l) (hf : Fr (fun _ => False) w w') : PAt ty w' B t l := h.fr hf (fun _ _ _ _ h => h)
theorem PAt.frN {x : Nat} {t : PT} (h : PAt ty w B t l) (hx : x < B) (hf : Fr (fun j => j = x) w w') : PAt ty w' B t l := h.fr hf (fun j _ hj _ e => by omega)
theorem PAt.frB {x y : Nat} {t : PT} (h : PAt ty w B t l) (hx : Blk w x y cs) (h1 : y ≠ ty) (hf : Fr (fun j => j = x) w w') : PAt ty w' B t l :=
 h.fr hf (fun j cs' _ hb e => by subst e; exact Blk.ne_ hb hx (fun e => h1 e.symm) rfl)
theorem PAt.cells {t : PT} (h : PAt ty w B t l) : ∃ (k : Int) (i : ByteArray) (A : Option Addr) (n c : Nat),l = [.int .i64 k,.string i,.slice A n c] := by
 cases h with
 | leaf k i => exact ⟨_,_,_,_,_,rfl⟩
 | node k ts A c L hL hp hr => exact ⟨_,_,_,_,_,rfl⟩
section
variable (rs : List Int)
def dU (p e : Nat) (i : ByteArray) : Prop := ql rs (skip rs [0] p) i.data.toList ∧ i.data.toList ≠ [] ∧ i.data.toList.length ≤ 4000 ∧ (Tm.iri ⟨i.data.toList.toArray⟩).good = true ∧ e = skip rs [0] p + i.data.toList.length + 2
instance (p e : Nat) (i : ByteArray) : Decidable (dU rs p e i) := by unfold dU ql; infer_instance
abbrev mk1 (x : UInt8) : ByteArray := ⟨#[x]⟩
inductive dG (P : Nat → PT → Nat → Nat → Prop) : Nat → PT → Nat → Nat → Prop
 | paren (p : Nat) (t : PT) (e d : Nat) (h1 : aj rs p (mk1 40) = true) (h2 : P (an rs p (mk1 40)) t e d) (h3 : aj rs e (mk1 41) = true) : dG P p t (an rs e (mk1 41)) d
 | back (p e : Nat) (i : ByteArray) (h1 : aj rs p (mk1 40) = false) (h2 : aj rs p (mk1 94) = true) (h3 : dU rs (an rs p (mk1 94)) e i) : dG P p (.leaf 1 i) e 1
 | step (p e : Nat) (i : ByteArray) (h1 : aj rs p (mk1 40) = false) (h2 : aj rs p (mk1 94) = false) (h3 : dU rs p e i) : dG P p (.leaf 0 i) e 1
def lK (e : Nat) : Nat :=
 if aj rs e (mk1 42) = true then 4 else if aj rs e (mk1 43) = true then 5 else if aj rs e (mk1 126) = true then 6 else 0
def bD (P : Nat → PT → Nat → Nat → Prop) (p : Nat) (t : PT) (e d : Nat) : Prop := dG rs P p t e d ∧ lK rs e = 0
theorem bD.plain {P : Nat → PT → Nat → Nat → Prop} (p : Nat) (t : PT) (e d : Nat) (h1 : dG rs P p t e d) (h2 : lK rs e = 0) : bD rs P p t e d := ⟨h1,h2⟩
inductive fF (x : UInt8) (One : Nat → PT → Nat → Nat → Prop) : Nat → List PT → Nat → Nat → Prop
 | one (p : Nat) (t : PT) (e d : Nat) (h : One p t e d) : fF x One p [t] e d
 | more (p : Nat) (ts : List PT) (t : PT) (e d e1 d1 : Nat) (h : fF x One p ts e d) (h1 : aj rs e (mk1 x) = true) (h2 : One (an rs e (mk1 x)) t e1 d1) : fF x One p (ts ++ [t]) e1 (max d d1)
inductive d8 (x : UInt8) (k : Int) (One : Nat → PT → Nat → Nat → Prop) : Nat → PT → Nat → Nat → Prop
 | one (p : Nat) (t : PT) (e d : Nat) (h : fF rs x One p [t] e d) (h2 : aj rs e (mk1 x) = false) : d8 x k One p t e d
 | many (p : Nat) (ts : List PT) (e d : Nat) (h : fF rs x One p ts e d) (h1 : 2 ≤ ts.length) (h2 : aj rs e (mk1 x) = false) : d8 x k One p (.node k ts) e (d + 1)
def qx (P : Nat → PT → Nat → Nat → Prop) : Nat → PT → Nat → Nat → Prop := d8 rs 47 2 (bD rs P)
def aR : Nat → Nat → PT → Nat → Nat → Prop
 | 0 => fun _ _ _ _ => False
 | n + 1 => d8 rs 124 3 (qx rs (aR n))
end
inductive bE : PT → Nat → Prop
 | leaf (k : Int) (i : ByteArray) : bE (.leaf k i) 1
 | node (k : Int) (ts : List PT) (d : Nat) (f : PT → Nat) (u : PT) (h : ∀ t,t ∈ ts → bE t (f t)) (h2 : ∀ t,t ∈ ts → f t ≤ d) (h1 : u ∈ ts) (h3 : bE u d) : bE (.node k ts) (d + 1)
theorem bE.mk {ts : List PT} (h : ∀ t,t ∈ ts → ∃ m,m ≤ d ∧ bE t m) (h1 : ∃ t,t ∈ ts ∧ bE t d) : bE (.node k ts) (d + 1) := by
 obtain ⟨u,hu,hd⟩ := h1
 classical
 refine .node k ts d (fun t => if ht : t ∈ ts then (h t ht).choose else 0) u (fun t ht => ?_) (fun t ht => ?_) hu hd
 · rw [dif_pos ht];exact (h t ht).choose_spec.2
 · rw [dif_pos ht];exact (h t ht).choose_spec.1
theorem dG.deep {P : Nat → PT → Nat → Nat → Prop} (hP : ∀ p t e d,P p t e d → bE t d) {p e d : Nat} {t : PT} (h : dG rs P p t e d) : bE t d := by
 cases h with
 | paren _ _ _ h1 h2 h3 => exact hP _ _ _ _ h2
 | back _ _ _ _ _ => exact .leaf _ _
 | step _ _ _ _ _ => exact .leaf _ _
theorem bD.deep {P : Nat → PT → Nat → Nat → Prop} (hP : ∀ p t e d,P p t e d → bE t d) {p e d : Nat} {t : PT} (h : bD rs P p t e d) : bE t d := h.1.deep hP
theorem fF.deep {x : UInt8} {One : Nat → PT → Nat → Nat → Prop} (hP : ∀ p t e d,One p t e d → bE t d) {p e d : Nat} {ts : List PT} (h : fF rs x One p ts e d) : (∀ t,t ∈ ts → ∃ m,m ≤ d ∧ bE t m) ∧ ∃ t,t ∈ ts ∧ bE t d := by
 induction h with
 | one t e d h => exact ⟨fun u hu => by rw [List.mem_singleton.1 hu]; exact ⟨_,Nat.le_refl _,hP _ _ _ _ h⟩,⟨t,List.mem_singleton.2 rfl,hP _ _ _ _ h⟩⟩
 | more ts t e d e1 d1 h h1 h2 ih =>
  obtain ⟨i1,u,hu,i2⟩ := ih;have h3 := hP _ _ _ _ h2;refine ⟨fun v hv => ?_,?_⟩
  · rcases List.mem_append.1 hv with hv | hv
    · obtain ⟨m,hm,hd⟩ := i1 v hv;exact ⟨m,by omega,hd⟩
    · rw [List.mem_singleton.1 hv];exact ⟨d1,by omega,h3⟩
  · by_cases hd : d1 ≤ d
    · exact ⟨u,List.mem_append.2 (.inl hu),by rw [show max d d1 = d by omega]; exact i2⟩
    · exact ⟨t,List.mem_append.2 (.inr (List.mem_singleton.2 rfl)),by rw [show max d d1 = d1 by omega]; exact h3⟩
theorem d8.deep {x : UInt8} {One : Nat → PT → Nat → Nat → Prop} (hP : ∀ p t e d,One p t e d → bE t d) {p e d : Nat} {t : PT} (h : d8 rs x k One p t e d) : bE t d := by
 cases h with
 | one _ _ _ h h2 =>
  obtain ⟨_,u,hu,hd⟩ := h.deep hP;rw [List.mem_singleton.1 hu] at hd;exact hd
 | many _ _ _ h h1 h2 =>
  obtain ⟨a,b⟩ := h.deep hP;exact bE.mk a b
theorem aR.deep : ∀ {n p e d : Nat} {t : PT},aR rs n p t e d → bE t d
 | n + 1,_,_,_,_,h => d8.deep (fun _ _ _ _ h1 => d8.deep (fun _ _ _ _ h2 => bD.deep (fun _ _ _ _ h3 => aR.deep h3) h2) h1) h
theorem bE.pos {t : PT} (h : bE t d) : 1 ≤ d := by
 cases h <;> omega
theorem eS {T : ByteArray} (h : aj rs p T = true) : an rs p T = skip rs [0] p + T.size := by
 unfold an;rw [if_pos h]
theorem lL {x : UInt8} (h : aj rs p ⟨#[x]⟩ = true) : ah rs (skip rs [0] p) = (x.toNat : Int) := by
 unfold aj at h;rw [cE] at h;exact of_decide_eq_true h
theorem ir {x : UInt8} (h : aj rs p ⟨#[x]⟩ = true) (hp : p ≤ rs.length) : an rs p ⟨#[x]⟩ = skip rs [0] p + 1 ∧ p < an rs p ⟨#[x]⟩ ∧ an rs p ⟨#[x]⟩ ≤ rs.length := by
 have h1 := lL h;have h2 := eS h;have h3 := (kL rs [0] (rs.length - p) p (Nat.le_refl _) hp).1;have h4 : skip rs [0] p < rs.length := iq jj;have h5 : (⟨#[x]⟩ : ByteArray).size = 1 := rfl;omega
end
theorem dU.pos {q : Nat} {i : ByteArray} (hp : p ≤ rs.length) (h : dU rs p q i) : p < q ∧ q ≤ rs.length := by
 have h1 := kL rs [0] (rs.length - p) p (Nat.le_refl _) hp;obtain ⟨⟨_,_,h3⟩,_,_,_,h4⟩ := h;have h5 := iq (rs := rs) (p := skip rs [0] p + 1 + i.data.toList.length) (by rw [h3]; decide);omega
theorem EQ (k : Int) (i : ByteArray) (A : Option Addr) (n c : Nat) : (#[.int .i64 k,.string i,.slice A n c] : Array Value).all (·.oneCell') = true := all_oneCell_toArray (cs := [.int .i64 k,.string i,.slice A n c]) (by
 intro v hv;simp only [List.mem_cons,List.not_mem_nil,or_false] at hv;rcases hv with rfl | rfl | rfl <;> rfl)
inductive PBt (ty : TypeId) (w : World) (S : Nat → Prop) : PT → List Value → Prop
 | leaf (k : Int) (i : ByteArray) : PBt ty w S (.leaf k i) [.int .i64 k,.string i,.slice none 0 0]
 | node (k : Int) (ts : List PT) (A : Option Addr) (c : Nat) (L : List (List Value)) (hL : L.length = ts.length) (hp : ∀ (i : Nat) t l,ts[i]? = some t → L[i]? = some l → PBt ty w S t l) (hr : w.ownsRow 0 ty 3 (.slice A ts.length c) ts.length L.flatten) (hS : ∀ g,(Value.slice A ts.length c).ownBlock = some g → S g) :
  PBt ty w S (.node k ts) [.int .i64 k,.string ⟨#[]⟩,.slice A ts.length c]
theorem PBt.fr {T : Nat → Prop} (hf : Fr T w w') (hS : ∀ j,S j → ¬ T j) {t : PT} {l : List Value} (h : PBt ty w S t l) : PBt ty w' S t l := by
 induction h with
 | leaf k i => exact .leaf k i
 | node k ts A c L hL hp hr hs ih => exact .node k ts A c L hL ih (aa hr hf fun j hj => hS j (hs j hj)) hs
theorem PBt.imp {S' : Nat → Prop} (hS : ∀ j,j < w.heap.size → S j → S' j) {t : PT} {l : List Value} (h : PBt ty w S t l) : PBt ty w S' t l := by
 induction h with
 | leaf k i => exact .leaf k i
 | node k ts A c L hL hp hr hs ih => exact .node k ts A c L hL ih hr fun j hj => hS j (World.ownsRow.lt hr _ hj).2 (hs j hj)
theorem PAt.toB {t : PT} (h : PAt ty w B t l) : PBt ty w (fun j => B ≤ j) t l := by
 induction h with
 | leaf k i => exact .leaf k i
 | node k ts A c L hL hp hr ih =>
  refine .node k ts A c L hL ih (ai hr (Nat.zero_le _)) fun j hj => ?_;rcases hr.2 with ⟨h0,_⟩ | ⟨gg,cap,cur,hv,hbg,_⟩
  · rw [h0] at hj;cases hj
  · rw [hv] at hj;injection hj with hj;subst hj;exact hbg
theorem se (h : w.ownsRow 0 e size v n xs) (hB : ∀ g,v.ownBlock = some g → B ≤ g) : w.ownsRow B e size v n xs := by
 refine ⟨h.1,?_⟩;rcases h.2 with hn | ⟨g,cap,cur,rfl,hb,rest⟩
 · exact .inl hn
 · exact .inr ⟨g,cap,cur,rfl,hB g rfl,rest⟩
theorem PBt.toA (hS : ∀ j,S j → B ≤ j) {t : PT} {l : List Value} (h : PBt ty w S t l) : PAt ty w B t l := by
 induction h with
 | leaf k i => exact .leaf k i
 | node k ts A c L hL hp hr hs ih => exact .node k ts A c L hL ih (se hr fun g hg => hS g (hs g hg))
theorem ER : (prog.info? 171).map (·.size) = some 2 := kr
theorem jt (l : List UInt8) (b c p s : Nat) (A : Option Addr) (rs : List Int) (w : World) (hl2 : l.length ≤ 4000) (hs : skip rs [0] p = s) (hs2 : skip rs [0] s = s) (hnm : Name rs s l) (h : Sc w b A c rs p) :
    Calls prog 214 #[.agg #[.pointer (some ⟨b,0,none⟩)]] w (aV w b A c rs (s + 1 + l.length) (.agg #[.string ⟨l.toArray⟩,.nilIface])) := by
 have hf := Fr.a2 w (.cells #[.pointer (some ⟨b,0,none⟩)] 62) (.cells #[.string ⟨#[]⟩,.nilIface] 171);have hx := Blk.new w 62 #[.pointer (some ⟨b,0,none⟩)];have hy := Blk.new (w.alloc (.cells #[.pointer (some ⟨b,0,none⟩)] 62)) 171 #[.string ⟨#[]⟩,.nilIface];rw [show (w.alloc (.cells #[.pointer (some ⟨b,0,none⟩)] 62)).heap.size = w.heap.size + 1 by simp] at hy;have hx := hx.alloc (.cells #[.string ⟨#[]⟩,.nilIface] 171);have HX := Hd hx;have HY := Hd hy;have HF := Hd hf;have HS := Hd (h.frF hf);have hbl := h.blk.lt;have HN := Hd (fun w1 h1 => cD b c p A rs w1 h1);rw [hs,hnm.1] at HN;have HV := Hd (fun w1 h1 => ku l b c s s A rs w1 hl2 hs2 hnm h1);generalize (⟨l.toArray⟩ : ByteArray) = t at *;generalize s + 1 + l.length = q at *;clear h hf hx hy hs hs2 hnm;go_enter func214,ntmps214;go_wp2_with fail;refine (HN _ HS).mono ?_;rintro e w1 ⟨rfl,hs1,hf1⟩;have hx1 := HX.fr hf1 (by omega);have x1 := hx1.c0;have HX1 := Hd hx1;have HY1 := Hd (HY.fr hf1 (by omega));have HS1 := Hd hs1;have HF1 := Hd ((HF.mono (T := fun j => j = b) uu).trans' hf1);clear hs1 hf1 hx1;go_wp2_with fail;refine (HV _ HS1).mono ?_;rintro e w2 ⟨rfl,hs2,hf2⟩;have HY2 := Hd (HY1.fr hf2 (by omega));have HS2 := Hd hs2;have HF2 := Hd (HF1.trans' hf2);clear hs2 hf2 x1;have hy3 := HY2.out;have hst3 := Blk.setAll (vs := [.string t,.nilIface]) (old := [.string ⟨#[]⟩,.nilIface]) hy3 rfl;have HTH3 := Hd (Blk.there (cs := [.string ⟨#[]⟩,.nilIface]) hy3 (n := 2) rfl);have HST3 := Hd hst3.1;have HSS3 := Hd (HS2.fr hst3.2 (by omega) (fun j hj e => ac HS2.row hy3 de (by rw [hj,e])));have HFF3 := Hd (HF2.trans (T := fun j => j = b ∨ j = w.heap.size + 1) (hst3.2.mono (fun _ _ h => .inr h)) (fun j hj h => h.elim id (fun h => absurd hj jj)));have HONE3 := Hd (show (#[.string t,.nilIface] : Array Value).all (·.oneCell') = true from all_oneCell_toArray (by intro v hv; simp only [List.mem_cons,List.not_mem_nil,or_false] at hv; rcases hv with rfl | rfl <;> rfl));clear hy3 hst3;go_wp2_with (refine wpList_store_mid rfl 171 _ _ rfl _ _ _ rfl rfl HTH3.out ER HONE3.out ?_);exact bodyPost_ret (v := .agg #[.string t,.nilIface]) (results_cell_row rfl _ _ (w.heap.size + 1) 171 _ (0,0) _ rfl HST3.out underlying171 rfl kr) rfl ⟨rfl,HSS3,HFF3⟩
abbrev nv (v : ByteArray) (b : Bool) (k : Int) (t1 t2 t3 : ByteArray) : Value := .agg #[.string v,.bool b,.int .i64 k,.string t1,.string t2,.string t3]
section
theorem Blk.setA {old : Array Value} (h : Blk w g t old) (hl : cs.size = old.size) : Blk (w.setCells g 0 cs.toList) g t cs ∧ Fr (fun j => j = g) w (w.setCells g 0 cs.toList) := by
 have h1 := Blk.setAll (vs := cs.toList) (old := old.toList) (by rw [Array.toArray_toList]; exact h) (by simpa using hl);rw [Array.toArray_toList] at h1;exact h1
theorem Blk.thereA (h : Blk w g t cs) {n : Nat} (hn : n = cs.size) : w.there g 0 n :=
 Blk.there (cs := cs.toList) (by rw [Array.toArray_toList]; exact h) (by simpa using hn)
theorem Blk.rangeA (h : Blk w g t cs) : w.rangeAt g 0 cs.toList :=
 lB (by rw [Array.toArray_toList]; exact h)
section
variable {ops : Array Oper} {rest : List Oper} {op : Oper} {a : Act} {w : World} {Q : Exit → Act → World → Prop}
theorem j5 (hgd : op.guard = none) (ty : TypeId) (x y : Operand) (ho : op.op = .store ty x y) (b : Nat) (cells : Array Value) (hx : a.eval x = .pointer (some ⟨b,0,none⟩)) (hy : a.eval y = .agg cells) (t : TypeId) (old : Array Value) (hb : Blk w b t old) (hsz : cells.size = old.size) (hi : (prog.info? ty).map (·.size) = some cells.size) (h1 : cells.all (·.oneCell') = true)
    (h : ∀ w',Blk w' b t cells → Fr (fun j => j = b) w w' → wpList prog ops Q rest (a.put op.dst undef) w') : wpList prog ops Q (op :: rest) a w :=
 wpList_store_mid hgd ty x y ho b 0 cells hx hy (hb.thereA hsz) hi h1 (h _ (hb.setA hsz).1 (hb.setA hsz).2)
theorem aD (hgd : op.guard = none) (ty : TypeId) (x : Operand) (ho : op.op = .load ty x) (b : Nat) (hx : a.eval x = .pointer (some ⟨b,0,none⟩)) (t : TypeId) (cs : Array Value) (hb : Blk w b t cs) (d : TypeDesc) (hu : prog.underlying ty = some d) (hd : d.isRow = true) (hi : (prog.info? ty).map (·.size) = some cs.size)
    (h : wpList prog ops Q rest (a.put op.dst (.agg cs)) w) : wpList prog ops Q (op :: rest) a w :=
 wpList_load_mid hgd ty x ho b 0 hx cs.toList d hb.rangeA hu hd (by rw [hi,Array.length_toList]) (by rw [Array.toArray_toList]; exact h)
theorem qy (hgd : op.guard = none) (t e : TypeId) (x : Operand) (ho : op.op = .buildSlice t 1 #[(0,x)]) (cs : Array Value) (hx : a.eval x = .agg cs) (hu : prog.underlying t = some (.slice e)) (hsz : (prog.info? e).map (·.size) = some cs.size) (hz : ((prog.info? e).bind (·.zero)).isSome = true) (hsmall : cs.size ≤ 2 ^ 24) (hpos : 0 < cs.size)
    (h : ∀ w',w' = w.alloc (.cells cs e) → wpList prog ops Q rest (a.put op.dst (.slice (some ⟨w.heap.size,0,none⟩) 1 1)) w') : wpList prog ops Q (op :: rest) a w := by
 cases hie : prog.info? e with
 | none => simp [hie] at hsz
 | some ie =>
  simp only [hie,Option.map_some,Option.some.injEq,Option.bind_some] at hsz hz;obtain ⟨z,hzz⟩ := Option.isSome_iff_exists.1 hz;refine Go.wpList_buildSlice hgd t e 1 _ ho cs ie z hu hie hzz jj jj ?_ (h _ rfl);have h2 := Great.fill_whole (s := ie.size) jj [.agg cs] ((Array.range (1 * ie.size)).map (z.cells[· % z.cells.size]!)) (fun v hv => by rw [List.mem_singleton.1 hv]; exact hsz.symm) (by simp);simp only [List.map_toArray,List.map_cons,List.map_nil,hx];refine h2.trans ?_;show some (cs.toList ++ []).toArray = some cs;rw [List.append_nil,Array.toArray_toList]
end
structure aY (n : Nat) (cs : Array Value) : Prop where
 sz : cs.size = n
 one : cs.all (·.oneCell') = true
theorem Blk.oth {x : Nat} (h : Blk w g t cs) (hf : Fr (fun j => j = x) w w') (hne : g ≠ x) : Blk w' g t cs := h.fr hf hne
end
section
def over (cs : Array Value) (off : Nat) (l : Array Value) : Array Value := l.zipIdx.foldl (fun cs (x : Value × Nat) => cs.setIfInBounds (off + x.2) x.1) cs
theorem oZ (cs : Array Value) (off : Nat) (l : Array Value) : over cs off l = (l.toList.zipIdx 0).foldl (fun cs (x : Value × Nat) => cs.setIfInBounds (off + x.2) x.1) cs := by
 unfold over;rw [← Array.foldl_toList,Array.toList_zipIdx]
theorem nE (cs : Array Value) (off : Nat) (l : Array Value) : (over cs off l).size = cs.size := by
 rw [oZ];exact (Great.foldl_set off l.toList 0 cs).1
theorem xq (cs : Array Value) (off : Nat) (l : Array Value) (k : Nat) (h : off + l.size ≤ cs.size) : (over cs off l)[k]? = if off ≤ k ∧ k < off + l.size then l[k - off]? else cs[k]? := by
 rw [oZ,(Great.foldl_set off l.toList 0 cs).2 k];simp only [Nat.add_zero,Array.length_toList,Array.getElem?_toList];by_cases hk : off ≤ k ∧ k < off + l.size
 · rw [if_pos hk,if_pos jj]
 · rw [if_neg hk,if_neg jj]
theorem aY.over {off : Nat} {l : Array Value} (h : aY n cs) (hl : aY m l) (hb : off + m ≤ n) : aY n (over cs off l) := by
 refine ⟨(nE _ _ _).trans h.sz,?_⟩;rw [Array.all_eq_true_iff_forall_mem];intro v hv;obtain ⟨i,hi,rfl⟩ := Array.mem_iff_getElem.1 hv;have h1 := xq cs off l i (by rw [hl.sz,h.sz]; exact hb);rw [Array.getElem?_eq_getElem hi] at h1;have hc := Array.all_eq_true_iff_forall_mem.1 h.one;have hd := Array.all_eq_true_iff_forall_mem.1 hl.one;by_cases hk : off ≤ i ∧ i < off + l.size
 · rw [if_pos hk,Array.getElem?_eq_getElem jj] at h1;injection h1 with h1;rw [h1];exact hd _ (Array.getElem_mem _)
 · rw [if_neg hk] at h1;rw [nE] at hi;rw [Array.getElem?_eq_getElem hi] at h1;injection h1 with h1;rw [h1];exact hc _ (Array.getElem_mem _)
theorem iP (g : Nat) (t : TypeId) (off : Nat) : ∀ (l : List Value) (s : Nat) (cs : Array Value) (w : World),Blk w g t cs →
    Blk (w.setCells g (off + s) l) g t ((l.zipIdx s).foldl (fun cs (x : Value × Nat) => cs.setIfInBounds (off + x.2) x.1) cs) ∧ Fr (fun j => j = g) w (w.setCells g (off + s) l)
 | [],s,cs,w,h => ⟨h,Fr.refl _ _⟩
 | v :: l,s,cs,w,h => by
  have ih := iP g t off l (s + 1) _ _ (h.set_ (off + s) v);rw [World.setCells,List.zipIdx_cons,List.foldl_cons];exact ⟨ih.1,((Fr.refl (fun j => j = g) w).setCell ⟨g,off + s,none⟩ (fun _ => rfl) v).trans' ih.2⟩
theorem Blk.setOver {l : Array Value} (h : Blk w g t cs) (off : Nat) : Blk (w.setCells g off l.toList) g t (over cs off l) ∧ Fr (fun j => j = g) w (w.setCells g off l.toList) := by
 have h1 := iP g t off l.toList 0 cs w h;rw [oZ];exact h1
theorem Blk.therePart (h : Blk w g t cs) {k n : Nat} (hn : k + n ≤ cs.size) : w.there g k n := fun j hj => by
 refine ⟨?_,h.frozen (k + j)⟩;rw [h.cell (k + j),Array.getElem?_eq_getElem jj];rfl
section
variable {ops : Array Oper} {rest : List Oper} {op : Oper} {a : Act} {w : World} {Q : Exit → Act → World → Prop}
theorem fg (hgd : op.guard = none) (ty : TypeId) (x y : Operand) (ho : op.op = .store ty x y) (b o : Nat) (cells : Array Value) (hx : a.eval x = .pointer (some ⟨b,o,none⟩)) (hy : a.eval y = .agg cells) (t : TypeId) (cs : Array Value) (hb : Blk w b t cs) (hsz : o + cells.size ≤ cs.size) (hi : (prog.info? ty).map (·.size) = some cells.size) (h1 : cells.all (·.oneCell') = true)
    (h : Hid (∀ w' z,Hid (z = over cs o cells) → Blk w' b t z → Fr (fun j => j = b) w w' → wpList prog ops Q rest (a.put op.dst undef) w')) : wpList prog ops Q (op :: rest) a w :=
 wpList_store_mid hgd ty x y ho b o cells hx hy (hb.therePart hsz) hi h1 (h.out _ _ (Hd rfl) (hb.setOver o).1 (hb.setOver o).2)
theorem o5 (ty : TypeId) (z : Value) (hz : (prog.info? ty).bind (·.zero) = some z) (op : Oper) (ho : op.op = .alloc ty) (ρ : Operand → Value) (w : World) :
    (execOp ρ op).run prog w = .ok (.value (.pointer (some ⟨w.heap.size,0,none⟩))) (w.alloc (.cells z.cells ty)) := by
 cases hi : prog.info? ty with
 | none => simp [hi] at hz
 | some i =>
  simp only [hi,Option.bind_some] at hz;unfold execOp;simp [ho,Instr.alloc,zeroValue,typeInfo,hi,hz,newVar,newRow]
theorem bU (hgd : op.guard = none) (ty : TypeId) (ho : op.op = .alloc ty) (Z : Array Value) (hz : (prog.info? ty).bind (·.zero) = some (.agg Z))
    (h : Hid (∀ w' z,Hid (z = Z) → Hid (Blk w' w.heap.size ty z) → Hid (Fr (fun _ => False) w w') → w.heap.size < w'.heap.size → wpList prog ops Q rest (a.put op.dst (.pointer (some ⟨w.heap.size,0,none⟩))) w')) : wpList prog ops Q (op :: rest) a w :=
 Great.wpList_runTo hgd op.dst rfl _ _ (o5 ty (.agg Z) hz op ho a.eval w) (h.out _ Z (Hd rfl) (Hd (Blk.new w ty Z)) (Hd ((Fr.refl _ _).alloc _)) (by simp))
theorem gI (hgd : op.guard = none) (t : TypeId) (parts : Array (Nat × Operand)) (ho : op.op = .build t parts) (l : List (Nat × Value)) (hl : (parts.map fun (i,x) => (i,a.eval x)).toList = l) (C : Array Value) (hf : prog.built t l = some C)
    (h : Hid (∀ z,Hid (z = C) → wpList prog ops Q rest (a.put op.dst (.agg z)) w)) : wpList prog ops Q (op :: rest) a w :=
 Go.wpList_buildTo hgd t parts ho op.dst rfl C (by rw [hl]; exact hf) (h.out C (Hd rfl))
theorem ao (hgd : op.guard = none) (ty : TypeId) (x y : Operand) (ho : op.op = .store ty x y) (b : Nat) (cells : Array Value) (hx : a.eval x = .pointer (some ⟨b,0,none⟩)) (hy : a.eval y = .agg cells) (t : TypeId) (old : Array Value) (hb : Blk w b t old) (hsz : cells.size = old.size) (hi : (prog.info? ty).map (·.size) = some cells.size) (h1 : cells.all (·.oneCell') = true)
    (h : Hid (∀ w',Blk w' b t cells → Fr (fun j => j = b) w w' → wpList prog ops Q rest (a.put op.dst undef) w')) : wpList prog ops Q (op :: rest) a w :=
 j5 hgd ty x y ho b cells hx hy t old hb hsz hi h1 h.out
end
end
section
variable {ops : Array Oper} {rest : List Oper} {op : Oper} {a : Act} {w : World} {Q : Exit → Act → World → Prop}
theorem cx (hgd : op.guard = none) (s x : Operand) (t : TypeId) (ho : op.op = .call { callee := .builtin .append,args := #[s,x],argTypes := #[t,t] })
    (base : Nat) (e : TypeId) (z : Value) (size bytes : Nat) (ht : prog.underlying t = some (.slice e)) (hi : (prog.info? e).map (fun i => (i.zero,i.size,i.bytes)) = some (some z,size,bytes)) (hzs : z.cells.size = size) (hsz : 0 < size)
    (v : Value) (n : Nat) (xs : List Value) (hs : a.eval s = v) (hown : w.ownsRow base e size v n xs) (b : Nat) (cs : Array Value) (hx : a.eval x = .slice (some ⟨b,0,none⟩) 1 1) (hb : Blk w b e cs) (hN : aY size cs) (h63 : n ≤ 10000) (hbytes : bytes ≤ 10000) (hbase : base ≤ w.heap.size)
    (h : Hid (∀ g cap w',w'.ownsRow base e size (.slice (some ⟨g,0,none⟩) (n + 1) cap) (n + 1) (xs ++ cs.toList) → w.grownBy w' v.ownBlock → (v.ownBlock = some g ∨ g = w.heap.size) → wpList prog ops Q rest (a.put op.dst (.slice (some ⟨g,0,none⟩) (n + 1) cap)) w')) : wpList prog ops Q (op :: rest) a w := by
 obtain ⟨i,hi1,hz1,hz2,hz3⟩ := info_parts hi;refine wpList_append_lies _ hgd s x t ho base e i z size bytes ht hi1 hz1 hz2 hz3 hzs hsz v n xs hs hown ⟨b,0,none⟩ 1 1 cs.toList hx (by simp [hN.sz]) (World.news_of_block hb) (fun u hu => Array.all_eq_true_iff_forall_mem.1 hN.one u (by simpa using hu)) de (by unfold maxLen; omega) ?_ hbase w.heap.size rfl (fun g cap w' h1 h2 h3 _ => h.out g cap w' h1 h2 h3);exact Nat.le_trans (Nat.mul_le_mul (by omega : n + 1 ≤ 10001) hbytes) de
theorem ey (hgd : op.guard = none) (t e : TypeId) (x : Operand) (ho : op.op = .buildSlice t 1 #[(0,x)]) (cs : Array Value) (hx : a.eval x = .agg cs) (hu : prog.underlying t = some (.slice e)) (hsz : (prog.info? e).map (·.size) = some cs.size) (hz : ((prog.info? e).bind (·.zero)).isSome = true) (hsmall : cs.size ≤ 2 ^ 24) (hpos : 0 < cs.size)
    (h : Hid (∀ w',Blk w' w.heap.size e cs → Fr (fun _ => False) w w' → wpList prog ops Q rest (a.put op.dst (.slice (some ⟨w.heap.size,0,none⟩) 1 1)) w')) : wpList prog ops Q (op :: rest) a w :=
 qy hgd t e x ho cs hx hu hsz hz hsmall hpos (fun w' hw => by subst hw; exact h.out _ (Blk.new w e cs) ((Fr.refl _ _).alloc _))
end
theorem cU {base k : Nat} (h : w.ownsRow base e size v n xs) (hk : v.ownBlock = some k) : k < w.heap.size := by
 rcases h.2 with ⟨rfl,_⟩ | ⟨g,cap,cur,rfl,hb,hh,_⟩
 · cases hk
 · injection hk with hk;subst hk;exact (Array.getElem?_eq_some_iff.1 hh).1
theorem bs {base k : Nat} (h : w.ownsRow base e size v n xs) (hk : v.ownBlock = some k) : base ≤ k := by
 rcases h.2 with ⟨rfl,_⟩ | ⟨g,cap,cur,rfl,hb,hh,_⟩
 · cases hk
 · injection hk with hk;subst hk;exact hb
/-! Who is come to: plain. -/
abbrev Edge := Int × Int × Int
abbrev Place := Int × Int × Int
abbrev Nx := Int → Int → Bool → List Int
def ju (nx : Nx) (k : Edge) (x y : Place) : Prop :=
 y.1 = x.1 ∧ ((k.1 = x.2.1 ∧ y.2.1 = k.2.2 ∧ y.2.2 ∈ nx x.2.2 k.2.1 false) ∨ (k.2.2 = x.2.1 ∧ y.2.1 = k.1 ∧ y.2.2 ∈ nx x.2.2 k.2.1 true))
def qz (nx : Nx) (E : List Edge) (x y : Place) : Prop := ∃ k ∈ E,ju nx k x y
def Ext (S : Place → Place → Prop) (B B' : List Place) : Prop := (∀ y ∈ B,y ∈ B') ∧ ∀ y ∈ B',y ∉ B → ∀ z,S y z → z ∈ B'
theorem Ext.refl {S : Place → Place → Prop} (B : List Place) : Ext S B B := ⟨fun _ h => h,fun _ h h2 => absurd h h2⟩
theorem Ext.trans {S : Place → Place → Prop} {A B C : List Place} (h : Ext S A B) (k : Ext S B C) : Ext S A C := by
 refine ⟨fun y hy => k.1 y (h.1 y hy),fun y hy hn z hz => ?_⟩;by_cases hb : y ∈ B
 · exact k.1 z (h.2 y hb hn z hz)
 · exact k.2 y hy hb z hz
theorem Ext.add {S : Place → Place → Prop} {A B : List Place} {x : Place} (h : Ext S (A ++ [x]) B) (hx : ∀ z,S x z → z ∈ B) : Ext S A B := by
 refine ⟨fun y hy => h.1 y (List.mem_append_left _ hy),fun y hy hn z hz => ?_⟩;by_cases he : y = x
 · subst he;exact hx z hz
 · exact h.2 y hy (fun hm => by
    rcases List.mem_append.1 hm with h1 | h1
    · exact hn h1
    · exact he (List.mem_singleton.1 h1)) z hz
def eq (U B : List Place) : Nat := (U.filter fun u => decide (u ∉ B)).length
theorem jw {U B B' : List Place} (h : ∀ y ∈ B,y ∈ B') : eq U B' ≤ eq U B := by
 unfold eq
 induction U with
 | nil => simp
 | cons a U ih =>
  simp only [List.filter_cons];by_cases h1 : a ∈ B'
  · by_cases h2 : a ∈ B
    · simp [h1,h2]; simpa using ih
    · simp [h1,h2]; have := ih; simp at this; omega
  · have h2 : a ∉ B := fun h3 => h1 (h a h3);simp [h1,h2]; simpa using ih
theorem xt {U B : List Place} {x : Place} (hx : x ∈ U) (hn : x ∉ B) : eq U (B ++ [x]) < eq U B := by
 have hle : ∀ V : List Place,eq V (B ++ [x]) ≤ eq V B := fun V => jw (fun y hy => List.mem_append_left _ hy)
 induction U with
 | nil => cases hx
 | cons a U ih =>
  have e1 : ∀ C : List Place,eq (a :: U) C = (if a ∈ C then 0 else 1) + eq U C := fun C => by
   unfold eq;simp only [List.filter_cons];by_cases h : a ∈ C <;> simp [h,Nat.add_comm]
  rw [e1,e1];rcases List.mem_cons.1 hx with rfl | h
  · rw [if_pos (List.mem_append_right _ (List.mem_singleton.2 rfl)),if_neg hn];have := hle U;omega
  · have := ih h;by_cases h1 : a ∈ B
    · rw [if_pos h1,if_pos (List.mem_append_left _ h1)];omega
    · rw [if_neg h1];split <;> omega
def C4 (nx : Nx) (E : List Edge) (Q : Place → Prop) : Prop := ∀ x y,Q x → qz nx E x y → Q y
def d9 (nx : Nx) (out : Int → List Edge) (x y : Place) : Prop := ∃ k ∈ out x.2.1,ju nx k x y
/-! The six machines: plain. -/
def nxK (kind : Nat) (p q a : Int) : Nx := fun s n b =>
 match kind with
 | 0 => if s = 0 ∧ n = p ∧ b = false then [1] else if s = 1 ∧ n = q ∧ b = false then [2] else []
 | 1 => if s = 0 ∧ n = p ∧ b = false then [1] else if s = 1 ∧ n = p ∧ b = true then [2] else []
 | 2 => if s = 2 ∧ n = p ∧ b = false then [1,3] else if s = 4 ∧ n = q ∧ b = false then [1,5] else []
 | 3 => if s = 0 ∧ n = a ∧ b = true then [1] else []
 | 4 => if s = 0 ∧ n = p ∧ b = false then [1] else if s = 1 ∧ n = q ∧ b = false then [2] else if s = 2 ∧ n = a ∧ b = false then [3] else []
 | _ => if s = 0 ∧ n = p ∧ b = false then [1,3,5] else if s = 3 ∧ n = q ∧ b = false then [2,4] else if s = 5 ∧ n = p ∧ b = false then [2,6] else []
def iF (kind : Nat) : List Int := if kind = 2 then [0,2,4] else [0]
def iG (kind : Nat) : Int := match kind with | 0 => 2 | 1 => 2 | 2 => 1 | 3 => 1 | 4 => 3 | _ => 2
def bZ (kind : Nat) (p q a : Int) (E : List Edge) (x y : Int) : Prop :=
 match kind with
 | 0 => ∃ t,(x,p,t) ∈ E ∧ (t,q,y) ∈ E
 | 1 => ∃ t,(x,p,t) ∈ E ∧ (y,p,t) ∈ E
 | 2 => (x,p,y) ∈ E ∨ (x,q,y) ∈ E
 | 3 => (y,a,x) ∈ E
 | 4 => ∃ t s,(x,p,t) ∈ E ∧ (t,q,s) ∈ E ∧ (s,a,y) ∈ E
 | _ => ∃ t,(x,p,t) ∈ E ∧ ((t,q,y) ∈ E ∨ (t,p,y) ∈ E)
def ed (kind : Nat) (p q a : Int) (E : List Edge) (x : Place) : Prop :=
 match kind with
 | 0 => (x.2.2 = 0 ∧ x.1 = x.2.1) ∨ (x.2.2 = 1 ∧ (x.1,p,x.2.1) ∈ E) ∨ (x.2.2 = 2 ∧ bZ 0 p q a E x.1 x.2.1)
 | 1 => (x.2.2 = 0 ∧ x.1 = x.2.1) ∨ (x.2.2 = 1 ∧ (x.1,p,x.2.1) ∈ E) ∨ (x.2.2 = 2 ∧ bZ 1 p q a E x.1 x.2.1)
 | 2 => ((x.2.2 = 0 ∨ x.2.2 = 2 ∨ x.2.2 = 4) ∧ x.1 = x.2.1) ∨ ((x.2.2 = 1 ∨ x.2.2 = 3 ∨ x.2.2 = 5) ∧ bZ 2 p q a E x.1 x.2.1)
 | 3 => (x.2.2 = 0 ∧ x.1 = x.2.1) ∨ (x.2.2 = 1 ∧ bZ 3 p q a E x.1 x.2.1)
 | 4 => (x.2.2 = 0 ∧ x.1 = x.2.1) ∨ (x.2.2 = 1 ∧ (x.1,p,x.2.1) ∈ E) ∨ (x.2.2 = 2 ∧ bZ 0 p q a E x.1 x.2.1) ∨ (x.2.2 = 3 ∧ bZ 4 p q a E x.1 x.2.1)
 | _ => (x.2.2 = 0 ∧ x.1 = x.2.1) ∨ ((x.2.2 = 1 ∨ x.2.2 = 3 ∨ x.2.2 = 5) ∧ (x.1,p,x.2.1) ∈ E) ∨ ((x.2.2 = 2 ∨ x.2.2 = 4 ∨ x.2.2 = 6) ∧ bZ 5 p q a E x.1 x.2.1)
theorem vv (kind : Nat) (p q a : Int) (E : List Edge) (n s : Int) (h : s ∈ iF kind) : ed kind p q a E (n,n,s) := by
 unfold iF at h;split at h
 · rename_i hk;subst hk;left;simpa using h
 · rename_i hk;rw [List.mem_singleton] at h;unfold ed;split <;> first | exact .inl ⟨h,rfl⟩ | exact absurd rfl hk
theorem sf {nx : Nx} {E : List Edge} {x y : Place} (h : qz nx E x y) :
    y.1 = x.1 ∧ ∃ n b,y.2.2 ∈ nx x.2.2 n b ∧ (b = false ∧ (x.2.1,n,y.2.1) ∈ E ∨ b = true ∧ (y.2.1,n,x.2.1) ∈ E) := by
 obtain ⟨⟨k1,k2,k3⟩,hk,h1,⟨h2,h3,h4⟩ | ⟨h2,h3,h4⟩⟩ := h
 · refine ⟨h1,k2,false,h4,.inl ⟨rfl,?_⟩⟩;simp only at h2 h3;rw [← h2,h3];exact hk
 · refine ⟨h1,k2,true,h4,.inr ⟨rfl,?_⟩⟩;simp only at h2 h3;rw [← h2,h3];exact hk
theorem si {nx : Nx} {E : List Edge} {x y n t : Int} (h : (x,n,y) ∈ E) (ht : t ∈ nx s n false) : qz nx E (r,x,s) (r,y,t) := ⟨_,h,rfl,.inl ⟨rfl,rfl,ht⟩⟩
theorem vw {nx : Nx} {E : List Edge} {x y n t : Int} (h : (y,n,x) ∈ E) (ht : t ∈ nx s n true) : qz nx E (r,x,s) (r,y,t) := ⟨_,h,rfl,.inr ⟨rfl,rfl,ht⟩⟩
theorem sq (kind : Nat) (p q a : Int) (E : List Edge) : C4 (nxK kind p q a) E (ed kind p q a E) := by
 rintro ⟨r,x,s⟩ ⟨r',y,t⟩ hx hs;obtain ⟨h1,n,b,hn,he⟩ := sf hs;simp only at h1 hn he;subst h1
 match kind with
 | 0 =>
  simp only [nxK] at hn;split at hn
  · rename_i h;obtain ⟨rfl,rfl,rfl⟩ := h;rw [List.mem_singleton] at hn;simp [ed,bZ,hn] at hx he ⊢;rw [hx]; exact he
  · split at hn
    · rename_i h;obtain ⟨rfl,rfl,rfl⟩ := h;rw [List.mem_singleton] at hn;simp [ed,bZ,hn] at hx he ⊢;exact ⟨x,hx,he⟩
    · cases hn
 | 1 =>
  simp only [nxK] at hn;split at hn
  · rename_i h;obtain ⟨rfl,rfl,rfl⟩ := h;rw [List.mem_singleton] at hn;simp [ed,bZ,hn] at hx he ⊢;rw [hx]; exact he
  · split at hn
    · rename_i h;obtain ⟨rfl,rfl,rfl⟩ := h;rw [List.mem_singleton] at hn;simp [ed,bZ,hn] at hx he ⊢;exact ⟨x,hx,he⟩
    · cases hn
 | 2 =>
  simp only [nxK] at hn;split at hn
  · rename_i h;obtain ⟨rfl,rfl,rfl⟩ := h;simp [ed,bZ] at hx he hn ⊢;rw [hx]; right; exact ⟨by omega,.inl he⟩
  · split at hn
    · rename_i h;obtain ⟨rfl,rfl,rfl⟩ := h;simp [ed,bZ] at hx he hn ⊢;rw [hx]; right; exact ⟨by omega,.inr he⟩
    · cases hn
 | 3 =>
  simp only [nxK] at hn;split at hn
  · rename_i h;obtain ⟨rfl,rfl,rfl⟩ := h;rw [List.mem_singleton] at hn;simp [ed,bZ,hn] at hx he ⊢;rw [hx]; exact he
  · cases hn
 | 4 =>
  simp only [nxK] at hn;split at hn
  · rename_i h;obtain ⟨rfl,rfl,rfl⟩ := h;rw [List.mem_singleton] at hn;simp [ed,bZ,hn] at hx he ⊢;rw [hx]; exact he
  · split at hn
    · rename_i h;obtain ⟨rfl,rfl,rfl⟩ := h;rw [List.mem_singleton] at hn;simp [ed,bZ,hn] at hx he ⊢;exact ⟨x,hx,he⟩
    · split at hn
      · rename_i h;obtain ⟨rfl,rfl,rfl⟩ := h;rw [List.mem_singleton] at hn;simp [ed,bZ,hn] at hx he ⊢;obtain ⟨u,h1,h2⟩ := hx;exact ⟨u,h1,x,h2,he⟩
      · cases hn
 | k + 5 =>
  simp only [nxK] at hn;split at hn
  · rename_i h;obtain ⟨rfl,rfl,rfl⟩ := h;simp [ed,bZ] at hx he hn ⊢;rw [hx]; right; left; exact ⟨by omega,he⟩
  · split at hn
    · rename_i h;obtain ⟨rfl,rfl,rfl⟩ := h;simp [ed,bZ] at hx he hn ⊢;right; right; exact ⟨by omega,x,hx,.inl he⟩
    · split at hn
      · rename_i h;obtain ⟨rfl,rfl,rfl⟩ := h;simp [ed,bZ] at hx he hn ⊢;right; right; exact ⟨by omega,x,hx,.inr he⟩
      · cases hn
structure Closed (kind : Nat) (p q a : Int) (E : List Edge) (B : List Place) : Prop where
 start : ∀ k ∈ E,∀ s ∈ iF kind,(k.1,k.1,s) ∈ B ∧ (k.2.2,k.2.2,s) ∈ B
 step : ∀ x ∈ B,∀ y,qz (nxK kind p q a) E x y → y ∈ B
 sound : ∀ x ∈ B,ed kind p q a E x
theorem Closed.pairs {kind : Nat} {p q a : Int} {E : List Edge} {B : List Place} (h : Closed kind p q a E B) (hk : kind < 6) (x y : Int) : (x,y,iG kind) ∈ B ↔ bZ kind p q a E x y := by
 have go : ∀ {r u v n s t : Int},(r,u,s) ∈ B → (u,n,v) ∈ E → t ∈ nxK kind p q a s n false → (r,v,t) ∈ B := fun h1 h2 h3 => h.step _ h1 _ (si h2 h3);have bk : ∀ {r u v n s t : Int},(r,u,s) ∈ B → (v,n,u) ∈ E → t ∈ nxK kind p q a s n true → (r,v,t) ∈ B := fun h1 h2 h3 => h.step _ h1 _ (vw h2 h3);refine ⟨fun hm => ?_,fun hr => ?_⟩
 · have := h.sound _ hm
   match kind,hk with
   | 0,_ => simpa [ed,iG] using this
   | 1,_ => simpa [ed,iG] using this
   | 2,_ => simpa [ed,iG] using this
   | 3,_ => simpa [ed,iG] using this
   | 4,_ => simpa [ed,iG] using this
   | 5,_ => simpa [ed,iG] using this
 · match kind,hk with
   | 0,_ =>
    obtain ⟨t,h1,h2⟩ := hr;exact go (go (h.start _ h1 0 de).1 h1 (t := 1) (by simp [nxK])) h2 (by simp [nxK,iG])
   | 1,_ =>
    obtain ⟨t,h1,h2⟩ := hr;exact bk (go (h.start _ h1 0 de).1 h1 (t := 1) (by simp [nxK])) h2 (by simp [nxK,iG])
   | 2,_ =>
    rcases hr with h1 | h1
    · exact go (h.start _ h1 2 de).1 h1 (by simp [nxK,iG])
    · exact go (h.start _ h1 4 de).1 h1 (by simp [nxK,iG])
   | 3,_ =>
    have h1 : (y,a,x) ∈ E := hr;exact bk (h.start _ h1 0 de).2 h1 (by simp [nxK,iG])
   | 4,_ =>
    obtain ⟨t,s,h1,h2,h3⟩ := hr;exact go (go (go (h.start _ h1 0 de).1 h1 (t := 1) (by simp [nxK])) h2 (t := 2) (by simp [nxK])) h3 (by simp [nxK,iG])
   | 5,_ =>
    obtain ⟨t,h1,h2 | h2⟩ := hr
    · exact go (go (h.start _ h1 0 de).1 h1 (t := 3) (by simp [nxK])) h2 (by simp [nxK,iG])
    · exact go (go (h.start _ h1 0 de).1 h1 (t := 5) (by simp [nxK])) h2 (by simp [nxK,iG])
/-! One more edge: plain. -/
theorem d9.sub {nx : Nx} {o o' : Int → List Edge} (h : ∀ n k,k ∈ o n → k ∈ o' n) {x y : Place} (hs : d9 nx o x y) : d9 nx o' x y := by
 obtain ⟨k,hk,hs⟩ := hs;exact ⟨k,h _ _ hk,hs⟩
/-! Keys in order: plain. -/
def fh (o : Nat) (k : Edge) : Edge := match o with | 0 => k | 1 => (k.2.1,k.2.2,k.1) | _ => (k.2.2,k.1,k.2.1)
def fR (a b : Edge) : Int := if a.1 < b.1 then -1 else if b.1 < a.1 then 1 else if a.2.1 < b.2.1 then -1 else if b.2.1 < a.2.1 then 1 else if a.2.2 < b.2.2 then -1 else if b.2.2 < a.2.2 then 1 else 0
def eZ (o : Nat) (a b : Edge) : Int := fR (fh o a) (fh o b)
theorem nG {a b : Edge} (h : fh o a = fh o b) : a = b := by
 obtain ⟨a1,a2,a3⟩ := a;obtain ⟨b1,b2,b3⟩ := b;unfold fh at h;split at h <;> simp at h ⊢ <;> omega
theorem kN {a b : Edge} : fR a b = 0 ↔ a = b := by
 obtain ⟨a1,a2,a3⟩ := a;obtain ⟨b1,b2,b3⟩ := b;unfold fR;simp only [Prod.mk.injEq]
 repeat' split
 all_goals simp
 all_goals omega
theorem iQ {a b c : Edge} (h1 : fR a b < 0) (h2 : fR b c < 0) : fR a c < 0 := by
 obtain ⟨a1,a2,a3⟩ := a;obtain ⟨b1,b2,b3⟩ := b;obtain ⟨c1,c2,c3⟩ := c;unfold fR at *;simp only at *
 repeat' split at h1
 all_goals first
  | (exfalso; omega)
  | (repeat' split at h2
     all_goals first
      | (exfalso; omega)
      | (repeat' split
         all_goals first | omega | skip))
theorem vx {a b : Edge} (h : ¬ fR a b < 0) (hne : a ≠ b) : fR b a < 0 := by
 have h0 : fR a b ≠ 0 := fun e => hne (kN.1 e);obtain ⟨a1,a2,a3⟩ := a;obtain ⟨b1,b2,b3⟩ := b;unfold fR at *;simp only at *
 repeat' split at h
 all_goals first
  | (exfalso; omega)
  | (repeat' split
     all_goals first | omega | (exfalso; omega))
theorem o7 {a b : Edge} : eZ o a b = 0 ↔ a = b := ⟨fun h => nG (kN.1 h),fun h => by rw [h]; exact kN.2 rfl⟩
def gV (o : Nat) (l : List Edge) : Prop := l.Pairwise (fun a b => eZ o a b < 0)
def bP (o : Nat) (l : List Edge) (k : Edge) : Nat := (l.takeWhile fun a => decide (eZ o a k < 0)).length
def gW (o : Nat) (l : List Edge) (k : Edge) : List Edge := l.take (bP o l k) ++ k :: l.drop (bP o l k)
theorem kO (o : Nat) (l : List Edge) (k : Edge) : bP o l k ≤ l.length := (List.takeWhile_sublist _).length_le
theorem jx : ∀ {l : List Edge} {k : Edge} {i : Nat} {x : Edge},i < bP o l k → l[i]? = some x → eZ o x k < 0
 | [],_,_,_,h,_ => by simp [bP] at h
 | a :: l,k,i,x,h,hx => by
  unfold bP at h;rw [List.takeWhile_cons] at h;by_cases ha : eZ o a k < 0
  · rw [if_pos (by simpa using ha)] at h;cases i with
    | zero => simp at hx; exact hx ▸ ha
    | succ i => exact jx (l := l) (by unfold bP; simp at h; omega) (by simpa using hx)
  · rw [if_neg (by simpa using ha)] at h;simp at h
theorem jy : ∀ {l : List Edge} (hs : gV o l) {k : Edge} {i : Nat} {x : Edge},bP o l k ≤ i → l[i]? = some x → ¬ eZ o x k < 0
 | [],_,_,_,_,_,hx => by simp at hx
 | a :: l,hs,k,i,x,h,hx => by
  have hs' := List.pairwise_cons.1 hs;unfold bP at h;rw [List.takeWhile_cons] at h;by_cases ha : eZ o a k < 0
  · rw [if_pos (by simpa using ha)] at h;cases i with
    | zero => simp at h
    | succ i => exact jy (l := l) hs'.2 (by unfold bP; simp at h; omega) (by simpa using hx)
  · cases i with
    | zero => simp at hx; exact hx ▸ ha
    | succ i =>
     intro hc;exact ha (iQ (hs'.1 x (List.mem_of_getElem? (by simpa using hx))) hc)
theorem lM {l : List Edge} {k x : Edge} : x ∈ gW o l k ↔ x = k ∨ x ∈ l := by
 unfold gW
 conv => rhs; rw [← List.take_append_drop (bP o l k) l]
 simp only [List.mem_append,List.mem_cons];constructor
 · rintro (h | h | h)
   · exact .inr (.inl h)
   · exact .inl h
   · exact .inr (.inr h)
 · rintro (h | h | h)
   · exact .inr (.inl h)
   · exact .inl h
   · exact .inr (.inr h)
theorem jz {l : List Edge} {k : Edge} : (gW o l k).length = l.length + 1 := by
 unfold gW;have := kO o l k;simp;omega
theorem vy {l : List Edge} {k : Edge} (hs : gV o l) (hk : k ∉ l) : gV o (gW o l k) := by
 unfold gW gV;have h1 : (l.take (bP o l k)).Pairwise (fun a b => eZ o a b < 0) := List.Pairwise.sublist (List.take_sublist _ _) hs;have h2 : (l.drop (bP o l k)).Pairwise (fun a b => eZ o a b < 0) := List.Pairwise.sublist (List.drop_sublist _ _) hs;have a1 : ∀ a ∈ l.take (bP o l k),eZ o a k < 0 := fun a ha => by
  obtain ⟨i,hi⟩ := List.getElem?_of_mem ha;rw [List.getElem?_take] at hi;split at hi
  · exact jx (by assumption) hi
  · cases hi
 have a2 : ∀ b ∈ l.drop (bP o l k),eZ o k b < 0 := fun b hb => by
  obtain ⟨i,hi⟩ := List.getElem?_of_mem hb;rw [List.getElem?_drop] at hi;have h3 := jy hs (Nat.le_add_right _ i) hi;exact vx h3 (fun e => hk (by have := List.mem_of_getElem? hi; rwa [nG e] at this))
 refine List.pairwise_append.2 ⟨h1,List.pairwise_cons.2 ⟨a2,h2⟩,fun a ha b hb => ?_⟩;rcases List.mem_cons.1 hb with rfl | hb
 · exact a1 a ha
 · exact iQ (a1 a ha) (a2 b hb)
theorem gV.nodup {l : List Edge} (h : gV o l) : l.Nodup := h.imp (fun {a b} hab e => by
 subst e;have := (o7 (o := o) (a := a) (b := a)).2 rfl;omega)
theorem sr {l : List Edge} {k : Edge} (hs : gV o l) : l[bP o l k]? = some k ↔ k ∈ l := by
 refine ⟨fun h => List.mem_of_getElem? h,fun h => ?_⟩;obtain ⟨i,hi⟩ := List.getElem?_of_mem h;have e0 : eZ o k k = 0 := o7.2 rfl;rcases Nat.lt_trichotomy i (bP o l k) with h1 | h1 | h1
 · have := jx h1 hi;omega
 · rw [← h1];exact hi
 · obtain ⟨hlt,he⟩ := List.getElem?_eq_some_iff.1 hi;have hlt2 : bP o l k < l.length := jj;have h2 := jy hs (Nat.le_refl _) (List.getElem?_eq_getElem hlt2);have h3 := (List.pairwise_iff_getElem.1 hs) _ _ hlt2 hlt h1;rw [he] at h3;exact absurd h3 h2
theorem iR {α : Type} {p : α → Bool} : ∀ {l : List α} {i : Nat} {x : α},l[i]? = some x → (∀ j y,j ≤ i → l[j]? = some y → p y = true) → (l.takeWhile p)[i]? = some x
 | [],i,x,h,_ => by simp at h
 | a :: l,i,x,h,hp => by
  rw [List.takeWhile_cons,if_pos (hp 0 a (Nat.zero_le _) rfl)];cases i with
  | zero => exact h
  | succ i => exact iR (l := l) (by simpa using h) (fun j y hj hy => hp (j + 1) y (by omega) (by simpa using hy))
theorem iS {α : Type} {p : α → Bool} : ∀ {l : List α} {x : α},x ∈ l.takeWhile p → p x = true ∧ x ∈ l
 | [],x,h => by simp at h
 | a :: l,x,h => by
  rw [List.takeWhile_cons] at h;split at h
  · rcases List.mem_cons.1 h with rfl | h
    · exact ⟨by assumption,by simp⟩
    · have := iS h;exact ⟨this.1,by simp [this.2]⟩
  · cases h
def ub (l : List Edge) (n : Int) : List Edge := (l.drop (bP 1 l (0,n,0))).takeWhile fun k => decide (k.2.1 = n)
theorem vz {l : List Edge} (hs : gV 1 l) (h0 : ∀ k ∈ l,0 ≤ k.1 ∧ 0 ≤ k.2.1 ∧ 0 ≤ k.2.2) (n : Int) (k : Edge) : k ∈ ub l n ↔ k ∈ l ∧ k.2.1 = n := by
 unfold ub;constructor
 · intro h;have := iS h;exact ⟨List.mem_of_mem_drop this.2,by simpa using this.1⟩
 · rintro ⟨hk,rfl⟩;obtain ⟨i,hi⟩ := List.getElem?_of_mem hk;have hz := h0 k hk;have hge : bP 1 l (0,k.2.1,0) ≤ i := by
    rcases Nat.lt_or_ge i (bP 1 l (0,k.2.1,0)) with h | h
    · have := jx h hi;unfold eZ fh fR at this;simp only at this
      repeat' split at this
      all_goals omega
    · exact h
   obtain ⟨m,rfl⟩ := Nat.exists_eq_add_of_le hge;have hm : (l.drop (bP 1 l (0,k.2.1,0)))[m]? = some k := by rw [List.getElem?_drop]; exact hi
   refine List.mem_of_getElem? (iR hm fun j y hj hy => ?_);rw [List.getElem?_drop] at hy;have hz2 := h0 y (List.mem_of_getElem? hy);have h1 := jy hs (Nat.le_add_right _ j) hy;have h2 : y.2.1 ≤ k.2.1 := by
    rcases Nat.lt_or_ge j m with h | h
    · obtain ⟨l1,e1⟩ := List.getElem?_eq_some_iff.1 hy;obtain ⟨l2,e2⟩ := List.getElem?_eq_some_iff.1 hi;have h3 := (List.pairwise_iff_getElem.1 hs) _ _ l1 l2 jj;rw [e1,e2] at h3;unfold eZ fh fR at h3;simp only at h3
      repeat' split at h3
      all_goals omega
    · have : j = m := jj;subst this;rw [hi] at hy;injection hy with hy;rw [hy];exact Int.le_refl _
   have h4 : k.2.1 ≤ y.2.1 := by
    unfold eZ fh fR at h1;simp only at h1
    repeat' split at h1
    all_goals omega
   simp;omega
theorem vA {l : List Edge} (h0 : ∀ k ∈ l,0 ≤ k.1 ∧ 0 ≤ k.2.1 ∧ 0 ≤ k.2.2) : bP 0 l (0,0,0) = 0 := by
 cases l with
 | nil => rfl
 | cons a l =>
  have hz := h0 a (by simp);unfold bP;rw [List.takeWhile_cons,if_neg]
  · rfl
  · unfold eZ fh fR;simp only [decide_eq_true_eq]
    repeat' split
    all_goals omega
theorem su {α : Type} (c vs xs : List α) (p q m : Nat) (hx : xs = c.take q) (hp : p ≤ q) (hm : vs.length = m) (hq : q + m ≤ c.length) :
    ((c.take (p + m) ++ xs.drop p ++ c.drop (p + m + (xs.drop p).length)).take p ++ vs ++ (c.take (p + m) ++ xs.drop p ++ c.drop (p + m + (xs.drop p).length)).drop (p + m)).take (q + m) = xs.take p ++ vs ++ xs.drop p ∧
    ((c.take (p + m) ++ xs.drop p ++ c.drop (p + m + (xs.drop p).length)).take p ++ vs ++ (c.take (p + m) ++ xs.drop p ++ c.drop (p + m + (xs.drop p).length)).drop (p + m)).length = c.length := by
 have hl1 : (c.take (p + m)).length = p + m := by rw [List.length_take]; omega
 have hxl : xs.length = q := by rw [hx,List.length_take]; omega
 have hdl : (xs.drop p).length = q - p := by rw [List.length_drop,hxl]
 have e1 : (c.take (p + m) ++ xs.drop p ++ c.drop (p + m + (xs.drop p).length)).take p = xs.take p := by
  rw [List.append_assoc,List.take_append_of_le_length jj,List.take_take,hx,List.take_take];congr 1;omega
 have e2 : (c.take (p + m) ++ xs.drop p ++ c.drop (p + m + (xs.drop p).length)).drop (p + m) = xs.drop p ++ c.drop (p + m + (xs.drop p).length) := by
  rw [List.append_assoc];exact List.drop_left' hl1
 rw [e1,e2];refine ⟨?_,?_⟩
 · rw [← List.append_assoc];refine List.take_left' ?_;simp only [List.length_append,List.length_take,hdl,hxl,hm];omega
 · simp only [List.length_append,List.length_take,List.length_drop,hxl,hm];omega
theorem cf (h : Blk w g t cs) (cs' : Array Value) : Blk (w.setRow g cs') g t cs' := setRow_heap w g cs cs' t _ h
theorem dr {a : World} (h : Fr S a w) (cs' : Array Value) (hg : g < a.heap.size → S g) : Fr S a (w.setRow g cs') := by
 refine h.trans (T := fun k => k = g) ⟨rfl,rfl,rfl,by simp [World.setRow],fun k hk hne => setRow_other w g k _ hne⟩ (fun i hi e => ?_);have e : i = g := e;exact e ▸ hg (e ▸ hi)
theorem cg (dT ty elem : TypeId) (size : Nat) (hu : prog.underlying dT = some (.slice elem)) (hs : (prog.info? elem).map (·.size) = some size) {b : Nat} {t : TypeId} {cur : Array Value} (hb : Blk w b t cur) (o dLen dCap : Nat) (a : Addr) (sLen sCap n : Nat) (vs : List Value)
    (hn : n = Nat.min sLen dLen) (hl : vs.length = n * size) (hsrc : ∀ j v,vs[j]? = some v → w.cell? (a.add j) = some v) (hfit : o + vs.length ≤ cur.size) (h1 : ∀ v ∈ vs,v.oneCell' = true) :
    (Builtin.copy_ #[dT,dT] ty #[.slice (some ⟨b,o,none⟩) dLen dCap,.slice (some a) sLen sCap]).run prog w = .ok (goInt n) (w.setRow b (cur.toList.take o ++ vs ++ cur.toList.drop (o + vs.length)).toArray) := by
 have hf := run_firstCells_some (P := prog) w size n a sLen sCap vs hl hsrc;have hst := run_storeCells_at prog b o t vs 0 cur w hb (by simpa using hfit) h1;simp only [Nat.add_zero] at hst;cases hq : prog.info? elem with
 | none => simp [hq] at hs
 | some i =>
  have hi : i.size = size := by simpa [hq] using hs
  simp [Builtin.copy_,run_underlying hu,Builtin.lenOf,sizeOf,typeInfo,hq,hi,← hn,hf,hst]
theorem sw : (prog.info? 71).map (fun i => (i.zero,i.size,i.bytes)) = some (some (.agg #[.int .i64 0,.int .i64 0,.int .i64 0]),3,24) := kr
theorem o9 : (prog.info? 71).map (·.size) = some 3 := kr
theorem xu (w : World) : (sizeOf 71).run prog w = .ok 3 w := by
 obtain ⟨i0,hi0,hz0,hzs,hzb⟩ := info_parts sw;simp [sizeOf,typeInfo,hi0,hzs]
def jA (base : Nat) (v : Value) (n i : Nat) (xs vs : List Value) (w : World) (e : Ending) (w' : World) : Prop :=
 ∃ v',e = .returned v' ∧ w'.ownsRow base 71 3 v' (n + 1) (xs.take (i * 3) ++ vs ++ xs.drop (i * 3)) ∧ Fr (fun k => v.ownBlock = some k) w w' ∧ (∀ k,v'.ownBlock = some k → v.ownBlock = some k ∨ w.heap.size ≤ k)
theorem sy (base : Nat) (v : Value) (n vb : Nat) (xs : List Value) (vs : Array Value) (w : World) (hown : w.ownsRow base 71 3 v n xs) (hv : Blk w vb 71 vs) (hvs : aY 3 vs) (hn : n ≤ 10000) (hb : base ≤ w.heap.size) :
    Calls prog 61 #[v,.int .i64 n,.slice (some ⟨vb,0,none⟩) 1 1] w (jA base v n n xs vs.toList w) := by
 have hl : ∀ ty,∀ W,(Builtin.len_ #[115] ty #[v]).run prog W = .ok (goInt n) W := fun ty W => by
  rcases hown.2 with ⟨rfl,rfl⟩ | ⟨g,cap,cur,rfl,_⟩ <;> simp [Builtin.len_,run_underlying underlying115,Builtin.lenOf]
 obtain ⟨i0,hi0,hz0,hzs,hzb⟩ := info_parts sw;obtain ⟨g2,cap2,w',hr,h2,h3,h4,h5⟩ := run_append_lies (P := prog) w 115 115 base 71 i0 _ 3 24 underlying115 hi0 hz0 hzs hzb rfl de v n xs hown ⟨vb,0,none⟩ 1 1 vs.toList (by simp [hvs.sz]) (World.news_of_block hv) (fun u hu => Array.all_eq_true_iff_forall_mem.1 hvs.one u (by simpa using hu)) de (by unfold maxLen; omega) jj hb _ rfl;have hr' : ∀ ty,(Builtin.append_ #[115,115] ty #[v,.slice (some ⟨vb,0,none⟩) 1 1]).run prog w = .ok _ w' := fun ty => hr;have hlen := hown.1;have H : jA base v n n xs vs.toList w (.returned (.slice (some ⟨g2,0,none⟩) (n + 1) cap2)) w' := ⟨_,rfl,by rw [List.take_of_length_le jj,List.drop_eq_nil_of_le jj,List.append_nil]; exact h2,Fr.of_grown h3 |>.mono (fun k _ h => h),fun k hk => by
  injection hk with hk;subst hk;rcases h4 with h4 | h4
  · exact .inl h4
  · exact .inr (Nat.le_of_eq h4.symm)⟩
 have HH := Hd H;rcases hown.2 with ⟨rfl,rfl⟩ | ⟨g,cap,cur,rfl,hbg,hg,hnc,hcm,hcs,htk⟩
 · clear hown h2 h3 h4 h5 H hr;go_enter func61,ntmps61;go_wp2_with (at_builtin; refine Lib.wpList_append_run _ rfl _ _ _ _ rfl _ _ rfl rfl _ _ (hr' _) ?_);go_ret;exact HH
 · clear hown h2 h3 h4 h5 H hr;go_enter func61,ntmps61;go_wp2_with (at_builtin; refine Lib.wpList_append_run _ rfl _ _ _ _ rfl _ _ rfl rfl _ _ (hr' _) ?_)
   all_goals
    go_ret;exact HH
theorem pd (base g n cap i vb : Nat) (xs : List Value) (vs : Array Value) (w : World) (hown : w.ownsRow base 71 3 (.slice (some ⟨g,0,none⟩) n cap) n xs) (hi : i < n) (hroom : n + 1 ≤ cap) (hv : Blk w vb 71 vs) (hvs : aY 3 vs) (hvb : vb ≠ g) (h1x : ∀ u ∈ xs,u.oneCell' = true) :
    Calls prog 61 #[.slice (some ⟨g,0,none⟩) n cap,.int .i64 i,.slice (some ⟨vb,0,none⟩) 1 1] w (jA base (.slice (some ⟨g,0,none⟩) n cap) n i xs vs.toList w) := by
 obtain ⟨hlen,h | ⟨g',cap',cur,he,hbg,hg,hnc,hcm,hcs,htk⟩⟩ := hown
 · exact absurd h.1 (by simp)
 simp only [Value.slice.injEq,Option.some.injEq,Addr.mk.injEq,and_true,true_and] at he;obtain ⟨rfl,rfl⟩ := he;have hov : ∀ W,Fr (fun _ => False) w W → ∀ o lb cb,(callFunc 109 #[.slice (some ⟨vb,0,none⟩) 1 1,.slice (some ⟨g,o,none⟩) lb cb]).run prog W = .ok (.value (.bool false)) W := fun W hW o lb cb => by
  have hvW := hv.fr hW id;have hgW : Blk W g 71 cur := Blk.fr hg hW id;rw [run_callFunc_extern func109 kr kr kr (e := Extern.SlicesOverlaps.overlaps #[115,115] #[4]) kr,
   Lib.run_overlaps_apart W 115 4 71 underlying115 3 xu ⟨vb,0,none⟩ ⟨g,o,none⟩ 1 1 _ _ hvb 71 71 vs.size cur.size (by simp [World.shape?,show W.heap[vb]? = _ from hvW]) (by simp [World.shape?,show W.heap[g]? = _ from hgW]) jj (hvW.frozen 0) (hvW.frozen _)]
  rfl
 have hc63 : cap ≤ 9223372036854775807 := hcm;have hw1 : IntKind.i64.wrap ((i : Int) + 1) = (i : Int) + 1 := by rw [IntKind.wrap_i64]; omega
 have hb2 : ¬ (cap = i + 1) := jj;have hb4 : ¬ (cap = i) := jj;have hin : i ≤ n := jj;have htn : ((i : Int) + 1).toNat = i + 1 := jj;have hov0 := hov w (Fr.refl _ _);have hd3 : (xs.drop (i * 3)).length = (n - i) * 3 := by rw [List.length_drop,hlen,Nat.sub_mul]
 have hnm : n - i = Nat.min (n + 1 - i) (n - i) := by simp only [Nat.min_def]; split <;> omega
 have hsrc : ∀ j u,(xs.drop (i * 3))[j]? = some u → cur[i * 3 + j]? = some u := fun j u h => by
  rw [List.getElem?_drop,← htk,List.getElem?_take] at h;split at h
  · simpa using h
  · cases h
 have h1d : ∀ u ∈ xs.drop (i * 3),u.oneCell' = true := fun u hu => h1x u (List.mem_of_mem_drop hu);obtain ⟨cur1,hcur1⟩ : ∃ cur1,cur1 = (cur.toList.take ((i + 1) * 3) ++ xs.drop (i * 3) ++ cur.toList.drop ((i + 1) * 3 + (xs.drop (i * 3)).length)).toArray := ⟨_,rfl⟩;have hcp1 : ∀ W,Fr (fun _ => False) w W → ∀ ty dc sc,(Builtin.copy_ #[115,115] ty #[.slice (some ⟨g,(i + 1) * 3,none⟩) (n - i) dc,.slice (some ⟨g,i * 3,none⟩) (n + 1 - i) sc]).run prog W = .ok (goInt ((n - i : Nat) : Int)) (W.setRow g cur1) := fun W hW ty dc sc => by
  have hgW : Blk W g 71 cur := Blk.fr hg hW id;rw [hcur1];exact cg 115 ty 71 3 underlying115 o9 hgW _ _ dc ⟨g,i * 3,none⟩ _ sc (n - i) _ hnm hd3 (fun j u hj => by rw [Addr.add_lit,hgW.cell]; exact hsrc j u hj) (by rw [hd3,hcs]; omega) h1d
 have HD3 := Hd hd3;have hc1s : cur1.size = cur.size := by rw [hcur1]; simp only [List.size_toArray,List.length_append,List.length_take,List.length_drop,Array.length_toList]; rw [hlen,hcs]; omega
 obtain ⟨cur2,hcur2⟩ : ∃ cur2,cur2 = (cur1.toList.take (i * 3) ++ vs.toList ++ cur1.toList.drop (i * 3 + vs.toList.length)).toArray := ⟨_,rfl⟩;have hcp2 : ∀ W,Blk W g 71 cur1 → Blk W vb 71 vs → ∀ ty dc,(Builtin.copy_ #[115,115] ty #[.slice (some ⟨g,i * 3,none⟩) (n + 1 - i) dc,.slice (some ⟨vb,0,none⟩) 1 1]).run prog W = .ok (goInt ((1 : Nat) : Int)) (W.setRow g cur2) := fun W hgW hvW ty dc => by
  rw [hcur2];exact cg 115 ty 71 3 underlying115 o9 hgW _ _ dc ⟨vb,0,none⟩ _ 1 1 _ (by simp only [Nat.min_def]; split <;> omega) (by simp [hvs.sz]) (World.news_of_block hvW) (by rw [hc1s,hcs]; simp only [Array.length_toList,hvs.sz]; omega) (fun u hu => Array.all_eq_true_iff_forall_mem.1 hvs.one u (by simpa using hu))
 have hfr1 : Fr (fun k => k = g) w (w.drew.setRow g cur1) := dr (Fr.refl _ w).drew _ (fun _ => rfl);have hcp2' := hcp2 (w.drew.setRow g cur1) (cf (Blk.drew hg) _) (hv.fr hfr1 hvb);have HF2 := Hd (dr (S := fun k => k = g) hfr1 cur2 (fun _ => rfl));have HB2 := Hd (cf (cf (Blk.drew hg) cur1) cur2);have HC := Hd hcur1;have HC2 := Hd hcur2;clear hfr1 hcp2 hcur1 hcur2 hc1s;have hb1 : (0 : Int) ≤ (i : Int) + 1 := jj;have hb3 : (i : Int) ≤ (n : Int) + 1 := jj;have mixed : prog.follows Departure.mixedOrders = true := kr;clear hov hnm hd3 hsrc h1d;go_enter func61,ntmps61;go_wp2_with (simp only [hov0])
 go_region_law_o (refine step_copy_runI rfl _ _ 115 115 rfl _ _ (by simp [Act.eval,Act.put]; rfl) (by simp [Act.eval,Act.put]; rfl) (hcp1 _ ((Fr.refl _ w).drew) _ _ _) ?_);go_wp2_with (simp only [hcp2']);go_ret;have e := su cur.toList vs.toList xs (i * 3) (n * 3) 3 htk.symm jj (by simp [hvs.sz]) (by rw [Array.length_toList,hcs]; omega);have e3 : i * 3 + 3 = (i + 1) * 3 := jj;have e4 : n * 3 + 3 = (n + 1) * 3 := jj;have e5 : vs.toList.length = 3 := by simp [hvs.sz]
 have hx := HC2.out;have hx1 := HC.out;rw [e3,e4] at e;rw [e5,e3] at hx;refine ⟨_,rfl,⟨?_,.inr ⟨g,cap,cur2,rfl,hbg,HB2,hroom,hcm,?_,?_⟩⟩,HF2.mono (fun k _ h => by rw [h]; rfl),fun k hk => .inl hk⟩
 · simp only [List.length_append,List.length_take,HD3.out,e5,hlen];omega
 · rw [hx,hx1,List.size_toArray,e.2,Array.length_toList,hcs]
 · rw [hx,hx1];exact e.1
theorem xv {α : Type} (vs d z1 z2 a : List α) (p m q : Nat) (ha : a.length = p) (hm : vs.length = m) (hd : d.length = q - p) (hz : z1.length = q + m - p) (hp : p ≤ q) :
    let c := a ++ z1 ++ z2
    let c1 := c.take p ++ vs ++ c.drop (p + m)
    let c2 := c1.take (p + m) ++ d ++ c1.drop (p + m + d.length)
    c1.length = c.length ∧ c2.length = c.length ∧ c2.take (q + m) = a ++ vs ++ d := by
 intro c c1 c2;have hc : c = a ++ (z1 ++ z2) := by simp [c]
 have e1 : c1 = a ++ vs ++ c.drop (p + m) := by
  show c.take p ++ vs ++ c.drop (p + m) = _;rw [hc,List.take_left' ha]
 have hcl : c.length = p + (q + m - p) + z2.length := by simp only [c,List.length_append,ha,hz]
 have h1 : c1.length = c.length := by
  rw [e1];simp only [List.length_append,List.length_drop,ha,hm];omega
 have e2 : c2 = a ++ vs ++ d ++ c1.drop (p + m + d.length) := by
  show c1.take (p + m) ++ d ++ _ = _;rw [e1,List.take_left' (by rw [List.length_append,ha,hm])]
 refine ⟨h1,?_,?_⟩
 · rw [e2];simp only [List.length_append,List.length_drop,ha,hm,h1];omega
 · rw [e2];refine List.take_left' ?_;simp only [List.length_append,ha,hm,hd];omega
theorem qB (base g n i vb : Nat) (xs : List Value) (vs : Array Value) (w : World) (hown : w.ownsRow base 71 3 (.slice (some ⟨g,0,none⟩) n n) n xs) (hi : i < n) (hv : Blk w vb 71 vs) (hvs : aY 3 vs) (h1x : ∀ u ∈ xs,u.oneCell' = true) (hn : n ≤ 10000) (hbw : base ≤ w.heap.size) :
    Calls prog 61 #[.slice (some ⟨g,0,none⟩) n n,.int .i64 i,.slice (some ⟨vb,0,none⟩) 1 1] w (jA base (.slice (some ⟨g,0,none⟩) n n) n i xs vs.toList w) := by
 obtain ⟨hlen,h | ⟨g',cap',cur,he,hbg,hg,hnc,hcm,hcs,htk⟩⟩ := hown
 · exact absurd h.1 (by simp)
 simp only [Value.slice.injEq,Option.some.injEq,Addr.mk.injEq,and_true,true_and] at he;obtain ⟨rfl,rfl⟩ := he;obtain ⟨i0,hi0,hz0,hzs,hzb⟩ := info_parts sw;have hkk : (n : Int) + 1 - (i : Int) = ((n + 1 - i : Nat) : Int) := jj;have hik : i + (n + 1 - i) = n + 1 := jj;have hti : (xs.take (i * 3)).length = i * 3 := by rw [List.length_take,hlen]; omega
 have hcell : ∀ W,Fr (fun _ => False) w W → ∀ j u,xs[j]? = some u → W.cell? ⟨g,j,none⟩ = some u := fun W hW j u h => by
  have hgW : Blk W g 71 cur := Blk.fr hg hW id;rw [hgW.cell];rw [← htk,List.getElem?_take] at h;split at h
  · simpa using h
  · cases h
 have hold : (Builtin.firstCells i0.size i (.slice (some ⟨g,0,none⟩) i n)).run prog w.drew = .ok (xs.take (i * 3)).toArray w.drew := by
  rw [hzs];exact run_firstCells_some w.drew 3 i ⟨g,0,none⟩ i n _ hti (fun j v hj => by
   rw [Addr.add_lit,Nat.zero_add];rw [List.getElem?_take] at hj;split at hj
   · exact hcell _ (Fr.refl _ w).drew j v hj
   · cases hj)
 obtain ⟨G,hG⟩ : ∃ G,G = grownCap w (n + 1) n 71 := ⟨_,rfl⟩;obtain ⟨ROW,hROW⟩ : ∃ ROW : Array Value,ROW = (xs.take (i * 3)).toArray ++ Builtin.zeroCells (Value.agg #[.int .i64 0,.int .i64 0,.int .i64 0]).cells (n + 1 - i) ++ Builtin.zeroCells (Value.agg #[.int .i64 0,.int .i64 0,.int .i64 0]).cells (G - (n + 1)) := ⟨_,rfl⟩;have hrz : ∀ ty,(Builtin.append_ #[115,3] ty #[.slice (some ⟨g,0,none⟩) i n,.int .i64 ((n : Int) + 1 - (i : Int))]).run prog w =
     .ok (.slice (some ⟨w.heap.size,0,none⟩) (n + 1) G) (w.drew.alloc (.cells ROW 71)) := fun ty => by
  have h := Lib.run_append_grow_zeros w 115 3 ty 71 i0 _ .i64 .i64 underlying115 underlying3 hi0 hz0 (some ⟨g,0,none⟩) i n (xs.take (i * 3)) hold (n + 1 - i) jj jj jj jj (by rw [hzb]; omega) (by rw [hzb,hik]; exact growslice_fits jj jj);rw [hik] at h;rw [hkk,hROW,hG];exact h
 have hGn : n + 1 ≤ G := by rw [hG]; exact grownCap_ge w _ _ _
 have hG63 : G ≤ maxLen := by rw [hG]; exact grownCap_le_maxLen w (n + 1) n 71 (by unfold maxLen; omega)
 have hG63' : G ≤ 9223372036854775807 := hG63;have hvl : vs.toList.length = 3 := by simp [hvs.sz]
 have hdl : (xs.drop (i * 3)).length = n * 3 - i * 3 := by rw [List.length_drop,hlen]
 have hPL := xv vs.toList (xs.drop (i * 3)) (Builtin.zeroCells (Value.agg #[.int .i64 0,.int .i64 0,.int .i64 0]).cells (n + 1 - i)).toList (Builtin.zeroCells (Value.agg #[.int .i64 0,.int .i64 0,.int .i64 0]).cells (G - (n + 1))).toList (xs.take (i * 3)) (i * 3) 3 (n * 3) hti hvl hdl (by rw [Array.length_toList,size_zeroCells]; show (n + 1 - i) * 3 = _; omega) jj;have hRL : ROW.toList = xs.take (i * 3) ++ (Builtin.zeroCells (Value.agg #[.int .i64 0,.int .i64 0,.int .i64 0]).cells (n + 1 - i)).toList ++ (Builtin.zeroCells (Value.agg #[.int .i64 0,.int .i64 0,.int .i64 0]).cells (G - (n + 1))).toList := by rw [hROW]; simp
 have hRs : ROW.size = G * 3 := by
  rw [← Array.length_toList,hRL];simp only [List.length_append,hti,Array.length_toList,size_zeroCells];show i * 3 + (n + 1 - i) * 3 + (G - (n + 1)) * 3 = _;omega
 simp only [← hRL] at hPL;obtain ⟨c1,hc1⟩ : ∃ c1,c1 = (ROW.toList.take (i * 3) ++ vs.toList ++ ROW.toList.drop (i * 3 + 3)).toArray := ⟨_,rfl⟩;obtain ⟨c2,hc2⟩ : ∃ c2,c2 = (c1.toList.take (i * 3 + 3) ++ xs.drop (i * 3) ++ c1.toList.drop (i * 3 + 3 + (xs.drop (i * 3)).length)).toArray := ⟨_,rfl⟩;have hP : c1.size = G * 3 ∧ c2.size = G * 3 ∧ c2.toList.take (n * 3 + 3) = xs.take (i * 3) ++ vs.toList ++ xs.drop (i * 3) := by
  rw [hc2,hc1,← hRs,← Array.length_toList (xs := ROW)];exact hPL
 have hcpA : ∀ W,Blk W w.heap.size 71 ROW → Blk W vb 71 vs → ∀ ty dc,(Builtin.copy_ #[115,115] ty #[.slice (some ⟨w.heap.size,i * 3,none⟩) (n + 1 - i) dc,.slice (some ⟨vb,0,none⟩) 1 1]).run prog W = .ok (goInt ((1 : Nat) : Int)) (W.setRow w.heap.size c1) := fun W hgW hvW ty dc => by
  rw [hc1];have := cg 115 ty 71 3 underlying115 o9 hgW (i * 3) (n + 1 - i) dc ⟨vb,0,none⟩ 1 1 1 vs.toList (by simp only [Nat.min_def]; split <;> omega) (by simp [hvs.sz]) (World.news_of_block hvW) (by rw [hRs,hvl]; omega) (fun u hu => Array.all_eq_true_iff_forall_mem.1 hvs.one u (by simpa using hu));rw [hvl] at this;exact this
 have hcpB : ∀ W,Blk W w.heap.size 71 c1 → Blk W g 71 cur → ∀ ty dc sc,(Builtin.copy_ #[115,115] ty #[.slice (some ⟨w.heap.size,(i + 1) * 3,none⟩) (n - i) dc,.slice (some ⟨g,i * 3,none⟩) (n - i) sc]).run prog W = .ok (goInt ((n - i : Nat) : Int)) (W.setRow w.heap.size c2) := fun W hgW hoW ty dc sc => by
  rw [hc2];have e3 : (i + 1) * 3 = i * 3 + 3 := jj;rw [e3];exact cg 115 ty 71 3 underlying115 o9 hgW (i * 3 + 3) (n - i) dc ⟨g,i * 3,none⟩ (n - i) sc (n - i) (xs.drop (i * 3)) (by simp only [Nat.min_def]; split <;> omega) (by rw [hdl,Nat.sub_mul]) (fun j u hj => by
   rw [Addr.add_lit,hoW.cell];rw [List.getElem?_drop,← htk,List.getElem?_take] at hj;split at hj
   · simpa using hj
   · cases hj) (by rw [hP.1,hdl]; omega) (fun u hu => h1x u (List.mem_of_mem_drop hu))
 have hA := hcpA ((w.alloc (.cells ROW 71)).drew) (Blk.drew (Blk.new w 71 ROW)) (Blk.drew (Blk.alloc hv _));have hf1 : Fr (fun _ => False) w ((w.alloc (.cells ROW 71)).drew) := ((Fr.refl _ w).alloc _).drew;have hf2 : Fr (fun _ => False) w (((w.alloc (.cells ROW 71)).drew).setRow w.heap.size c1) := dr hf1 c1 (fun h => absurd h (Nat.lt_irrefl _));have hB2 : Blk (((w.alloc (.cells ROW 71)).drew).setRow w.heap.size c1) w.heap.size 71 c1 := cf (Blk.drew (Blk.new w 71 ROW)) c1;have hw1 : IntKind.i64.wrap ((i : Int) + 1) = (i : Int) + 1 := by rw [IntKind.wrap_i64]; omega
 have hz3 : (n : Int) < (n : Int) + 1 := jj;have hb1 : (0 : Int) ≤ (i : Int) + 1 := jj;have hb3 : (i : Int) ≤ (n : Int) := jj;have htn : ((i : Int) + 1).toNat = i + 1 := jj;have hGi : ¬ (G = i) := jj;have hGim : ¬ (G = i + 1) := jj;have hci : ¬ (n = i) := jj;have mixed : prog.follows Departure.mixedOrders = true := kr;have HP := Hd hP;have HF2 := Hd hf2;have HB2 := Hd hB2;have HCB := Hd hcpB;have HG0 := Hd hg;have HN := Hd hGn;have HL := Hd hlen;clear hcpB hcpA hf1 hf2 hB2 hP hPL hRL hRs hc1 hc2 hROW hG hold hcell hkk hik hti hvl hdl hG63 hg htk hcs hlen;go_enter func61,ntmps61;go_wp2_with (first
  | (at_builtin; refine Lib.wpList_append_run _ rfl _ _ _ _ rfl _ _ rfl rfl _ _ (hrz _) ?_)
  | (simp only [hA]))
 go_region_law_o (refine step_copy_runI rfl _ _ 115 115 rfl (.slice (some ⟨w.heap.size,(i + 1) * 3,none⟩) (n - i) (G - (i + 1))) (.slice (some ⟨g,i * 3,none⟩) (n - i) (n - i)) (by simp [Act.eval,Act.put]) (by simp [Act.eval,Act.put]) (HCB _ (Blk.drew HB2) (Blk.fr HG0.out HF2.drew id) 3 (G - (i + 1)) (n - i)) ?_);go_wp2;go_ret;refine ⟨_,rfl,⟨?_,.inr ⟨w.heap.size,G,c2,rfl,hbw,cf (Blk.drew HB2) c2,HN,hG63',HP.2.1,?_⟩⟩,(dr (S := fun _ => False) HF2.drew c2 (fun h => absurd h (Nat.lt_irrefl _))).mono (fun k _ h => h.elim),fun k hk => ?_⟩
 · simp only [List.length_append,List.length_take,List.length_drop,HL.out,Array.length_toList,hvs.sz];omega
 · rw [show (n + 1) * 3 = n * 3 + 3 by omega];exact HP.2.2
 · injection hk with hk;exact .inr (Nat.le_of_eq hk)
theorem lN (base : Nat) (v : Value) (n i vb : Nat) (xs : List Value) (vs : Array Value) (w : World) (hown : w.ownsRow base 71 3 v n xs) (hi : i ≤ n) (hv : Blk w vb 71 vs) (hvs : aY 3 vs) (hvb : v.ownBlock ≠ some vb) (h1x : ∀ u ∈ xs,u.oneCell' = true) (hn : n ≤ 10000) (hb : base ≤ w.heap.size) :
    Calls prog 61 #[v,.int .i64 i,.slice (some ⟨vb,0,none⟩) 1 1] w (jA base v n i xs vs.toList w) := by
 rcases Nat.lt_or_ge i n with hlt | hge
 · have hown' := hown;rcases hown.2 with ⟨_,h⟩ | ⟨g,cap,cur,rfl,hbg,hg,hnc,hcm,hcs,htk⟩
   · omega
   · by_cases hroom : n + 1 ≤ cap
     · exact pd base g n cap i vb xs vs w hown' hlt hroom hv hvs (fun e => hvb (by rw [e]; rfl)) h1x
     · have : cap = n := jj;subst this;exact qB base g cap i vb xs vs w hown' hlt hv hvs h1x hn hb
 · have : i = n := jj;subst this;exact sy base v i vb xs vs w hown hv hvs hn hb
/-! Names, each once, where those alike stand side by side: plain. -/
def pj (out : List ByteArray) (x : ByteArray) : List ByteArray := if out.getLast? = some x then out else out ++ [x]
def ded (l : List ByteArray) : List ByteArray := l.foldl pj []
theorem lO (l : List ByteArray) (x : ByteArray) : ded (l ++ [x]) = pj (ded l) x := by simp [ded]
theorem qC (l : List ByteArray) : (ded l).getLast? = l.getLast? := by
 rcases List.eq_nil_or_concat l with rfl | ⟨l',x,rfl⟩
 · rfl
 · rw [List.concat_eq_append,lO];unfold pj;split
   · rename_i h;rw [h]; simp
   · simp
theorem uc (l : List ByteArray) : (ded l).length ≤ l.length := by
 have h : ∀ (l a : List ByteArray),(l.foldl pj a).length ≤ a.length + l.length := by
  intro l
  induction l with
  | nil => intro a; simp
  | cons p l ih =>
   intro a;have := ih (pj a p);have h2 : (pj a p).length ≤ a.length + 1 := by unfold pj; split <;> simp
   simp only [List.foldl_cons,List.length_cons];omega
 simpa [ded] using h l []
theorem nH {l : List ByteArray} (h : l[a]? = some x) : (l.take (a + 1)).getLast? = some x := by
 rw [List.take_add_one,h];simp
theorem jB {l : List ByteArray} (h : l[a]? = some x) (h2 : l[a + 1]? = some x) : ded (l.take (a + 2)) = ded (l.take (a + 1)) := by
 rw [show a + 2 = a + 1 + 1 from rfl,List.take_add_one (i := a + 1),h2];show ded (l.take (a + 1) ++ [x]) = _;rw [lO];unfold pj;rw [if_pos (by rw [qC,nH h])]
theorem pm {l : List ByteArray} (h : l[a]? = some x) (h2 : l[a + 1]? = some y) (hne : x ≠ y) : ded (l.take (a + 2)) = ded (l.take (a + 1)) ++ [y] := by
 rw [show a + 2 = a + 1 + 1 from rfl,List.take_add_one (i := a + 1),h2];show ded (l.take (a + 1) ++ [y]) = _;rw [lO];unfold pj;rw [if_neg (by rw [qC,nH h]; exact fun e => hne (Option.some.inj e))]
theorem xw (h : x ≠ y) : (x.toList == y.toList) = false := by
 simp only [beq_eq_false_iff_ne,ne_eq];intro e;apply h;rw [ByteArray.toList_eq,ByteArray.toList_eq] at e;exact ByteArray.ext (Array.toList_inj.1 e)
theorem mR (hb : Blk w g 9 cur) (hm : 0 < m) (hfit : o + m ≤ cur.size) (ty : TypeId) :
    (Builtin.clear_ #[31] ty #[.slice (some ⟨g,o,none⟩) m c]).run prog w = .ok (.tuple #[]) (w.setRow g (cur.toList.take o ++ List.replicate m (Value.string ⟨#[]⟩) ++ cur.toList.drop (o + m)).toArray) := by
 have hst := run_storeCells_at prog g o 9 (List.replicate m (Value.string ⟨#[]⟩)) 0 cur w hb (by simpa using hfit) (fun v hv => by rw [List.eq_of_mem_replicate hv]; rfl);simp only [Nat.add_zero,List.length_replicate] at hst;have hz : (zeroValue 9).run prog w = .ok (.string ⟨#[]⟩) w := kr;have hzc : (Builtin.zeroCells (Value.string ⟨#[]⟩).cells m).toList = List.replicate m (Value.string ⟨#[]⟩) := by
  apply List.ext_getElem
  · simp [Builtin.zeroCells,Value.cells]
  · intro i h1 h2;simp [Builtin.zeroCells,Value.cells,Nat.mod_one]
 obtain ⟨m',rfl⟩ : ∃ m',m = m' + 1 := ⟨m - 1,by omega⟩;simp [Builtin.clear_,run_underlying underlying31,hz,hzc,hst]
structure mS (ss : List ByteArray) (n a : Nat) (cur : Array Value) : Prop where
 here : ∀ (j : Nat) (x : ByteArray),(ded (ss.take (a + 1)))[j]? = some x → cur[j]? = some (Value.string x)
 rest : ∀ (j : Nat) (x : ByteArray),a ≤ j → ss[j]? = some x → cur[j]? = some (Value.string x)
 le : (ded (ss.take (a + 1))).length ≤ a
 size : n ≤ cur.size
theorem mS.same (h : mS ss n a cur) (h1 : ss[a]? = some x) (h2 : ss[a + 1]? = some x) : mS ss n (a + 1) cur :=
 ⟨fun j y hj => h.here j y (by rw [← jB h1 h2]; exact hj),fun j y hj hy => h.rest j y jj hy,by rw [jB h1 h2]; have := h.le; omega,h.size⟩
theorem mS.new (h : mS ss n a cur) (h1 : ss[a]? = some x) (h2 : ss[a + 1]? = some y) (hne : x ≠ y) (hn : a + 1 < n) :
    mS ss n (a + 1) (cur.setIfInBounds (ded (ss.take (a + 1))).length (Value.string y)) := by
 have he := pm h1 h2 hne;have hsz := h.size;have hlt := h.le;refine ⟨fun j z hj => ?_,fun j z hj hz => ?_,by rw [he]; simp; omega,by simpa using hsz⟩
 · rw [he] at hj;rcases Nat.lt_trichotomy j (ded (ss.take (a + 1))).length with hlt2 | heq | hgt
   · rw [List.getElem?_append_left hlt2] at hj;rw [Array.getElem?_setIfInBounds_ne jj];exact h.here j z hj
   · subst heq;rw [List.getElem?_append_right (Nat.le_refl _)] at hj;simp at hj;subst hj;rw [Array.getElem?_setIfInBounds_self_of_lt jj]
   · rw [List.getElem?_eq_none (by simp; omega)] at hj;cases hj
 · rw [Array.getElem?_setIfInBounds_ne jj];exact h.rest j z jj hz
theorem xy {l : List ByteArray} (h0 : ded (l.take (m + 1)) = l.take (m + 1)) (hm : m + 1 < l.length) (hne : l[m]? ≠ l[m + 1]?) : ded (l.take (m + 2)) = l.take (m + 2) := by
 have e1 : l[m]? = some l[m] := List.getElem?_eq_getElem jj;have e2 : l[m + 1]? = some l[m + 1] := List.getElem?_eq_getElem jj;rw [pm e1 e2 (fun e => hne (by rw [e1,e2,e])),h0]
 conv => rhs; rw [show m + 2 = m + 1 + 1 from rfl,List.take_add_one (i := m + 1),e2]
 rfl
theorem mS.start (h0 : ded (ss.take (m + 1)) = ss.take (m + 1)) (hm : m + 1 < ss.length) (he : ss[m]? = ss[m + 1]?) (hc : ∀ (j : Nat) (x : ByteArray),ss[j]? = some x → cur[j]? = some (Value.string x)) (hs : n ≤ cur.size) : mS ss n (m + 1) cur ∧ (ded (ss.take (m + 2))).length = m + 1 := by
 have e1 : ss[m]? = some ss[m] := List.getElem?_eq_getElem jj;have e2 : ss[m + 1]? = some ss[m] := by rw [← he,e1]
 have hd := jB e1 e2;have hl : (ded (ss.take (m + 2))).length = m + 1 := by rw [hd,h0,List.length_take]; omega
 refine ⟨⟨fun j x hj => hc j x ?_,fun j x _ hx => hc j x hx,by rw [hl]; exact Nat.le_refl _,hs⟩,hl⟩;rw [hd,h0,List.getElem?_take] at hj;split at hj
 · exact hj
 · cases hj
def po (g c B : Nat) (ss : List ByteArray) (w : World) (e : Ending) (w' : World) : Prop :=
 e = .returned (.slice (some ⟨g,0,none⟩) (ded ss).length c) ∧ w'.ownsRow B 9 1 (.slice (some ⟨g,0,none⟩) (ded ss).length c) (ded ss).length ((ded ss).map .string) ∧ Fr (fun j => j = g) w w'
theorem xz (hB : B ≤ g) (hm : c ≤ maxLen) (hc : cur.size = c) (hn : n ≤ c) (hl : ss.length = n) (hb : Blk w' g 9 cur) (h : ∀ (j : Nat) (x : ByteArray),(ded ss)[j]? = some x → cur[j]? = some (Value.string x)) (hf : Fr (fun j => j = g) w w') : po g c B ss w (.returned (.slice (some ⟨g,0,none⟩) (ded ss).length c)) w' := by
 have hdl := uc ss;refine ⟨rfl,⟨by simp,.inr ⟨g,c,cur,rfl,hB,hb,by omega,hm,by omega,?_⟩⟩,hf⟩;apply List.ext_getElem?;intro j;rw [Nat.mul_one,List.getElem?_take,List.getElem?_map];split
 · rename_i hj;rw [Array.getElem?_toList,h j _ (List.getElem?_eq_getElem hj),List.getElem?_eq_getElem hj];rfl
 · rename_i hj;rw [List.getElem?_eq_none jj];rfl
theorem xA (g n c B : Nat) (ss : List ByteArray) (w : World) (hn : n ≤ 9) (h : w.ownsRow B 9 1 (.slice (some ⟨g,0,none⟩) n c) n (ss.map .string)) :
    Calls prog 84 #[.slice (some ⟨g,0,none⟩) n c] w (po g c B ss w) := by
 have hl : ss.length = n := by have := h.1; simpa using this
 obtain ⟨_,⟨e,_⟩ | ⟨g',cap,cur,e,hB,hb,hnc,hcm,hcs,htk⟩⟩ := h
 · cases e
 simp only [Value.slice.injEq,Option.some.injEq,Addr.mk.injEq,and_true,true_and] at e;obtain ⟨rfl,rfl⟩ := e;rw [Nat.mul_one] at hcs htk;have hcell : ∀ (j : Nat) (x : ByteArray),ss[j]? = some x → cur[j]? = some (Value.string x) := fun j x hj => by
  have hjl := (List.getElem?_eq_some_iff.1 hj).1;have : (cur.toList.take n)[j]? = some (Value.string x) := by rw [htk,List.getElem?_map,hj]; rfl
  rw [List.getElem?_take,if_pos jj,Array.getElem?_toList] at this;exact this
 have HDONE := Hd (fun w' cur' (h1 : cur'.size = cur.size) h2 h3 h4 => xz (w := w) (w' := w') (g := g) (cur := cur') hB hcm (h1.trans hcs) hnc hl h2 h3 h4);have HB := Hd (show Blk w g 9 cur from hb);have HC := Hd hcell;have HL := Hd hl;have hsz : n ≤ cur.size := jj;have HS := Hd hsz;clear hb hcell hl htk hcs hB hsz;by_cases h2 : n < 2
 · have h2' : (n : Int) < 2 := jj;have hds : ded ss = ss := by
    have := HL.out
    match ss,this with
    | [],_ => rfl
    | [x],_ => rfl
    | a :: b :: l,hl => simp at hl; omega
   have hpost := HDONE.out w cur rfl HB (by rw [hds]; exact HC) (Fr.refl _ _);rw [hds,HL.out] at hpost;have HP := Hd hpost;clear hpost;go_enter func84,ntmps84;go_wp2_with fail;go_ret;exact HP
 · have h2' : ¬ (n : Int) < 2 := jj;go_enter func84,ntmps84;go_wp2_with fail
   go_loopw [3] (fun iv wr => ∃ m : Nat,m + 1 ≤ n ∧ iv = .int .i64 ((m : Int) + 1) ∧ ded (ss.take (m + 1)) = ss.take (m + 1) ∧ Fr (fun _ => False) w wr) (fun iv _ => n + 1 - (intOf iv).toNat)
   case atStart => exact ⟨0,by omega,rfl,by
    have := HL.out
    match ss,this with
    | [],_ => rfl
    | x :: l,_ => rfl,Fr.refl _ _⟩
   case round =>
    obtain ⟨m,hm,rfl,hd,hf⟩ := hrel;have HF := Hd hf;have HD := Hd hd;have hbr := HB.fr hf id;by_cases hk : m + 1 < n
    · have hk' : (m : Int) + 1 < (n : Int) := jj;obtain ⟨x,hx⟩ : ∃ x,ss[m]? = some x := ⟨_,List.getElem?_eq_getElem (by rw [HL.out]; omega)⟩;obtain ⟨y,hy⟩ : ∃ y,ss[m + 1]? = some y := ⟨_,List.getElem?_eq_getElem (by rw [HL.out]; omega)⟩;have c0 : wr.cell? ⟨g,m,none⟩ = some (.string x) := by rw [hbr.cell]; exact HC _ _ hx
      have c1 : wr.cell? ⟨g,m + 1,none⟩ = some (.string y) := by rw [hbr.cell]; exact HC _ _ hy
      have HY := Hd hy;by_cases hxy : x = y
      · subst hxy;have hst := mS.start HD (by rw [HL.out]; exact hk) (by rw [hx,hy]) HC.out HS.out;have HST := Hd hst.1;have HKL := Hd hst.2;have hxx : (x.toList == x.toList) = true := by simp
        clear hf hd hbr hx hy hst;go_wp2_with fail
        go_quiet (fail);go_wp2_with fail
        go_loopw [3,5] (fun kv iv wr => ∃ (i kk : Nat) (cur2 : Array Value),iv = .int .i64 ((i : Int) + 1) ∧ m + 1 + i + 1 ≤ n ∧ kv = .int .i64 (kk : Int) ∧ kk = (ded (ss.take (m + 1 + i + 1))).length ∧ mS ss n (m + 1 + i) cur2 ∧ cur2.size = cur.size ∧ Blk wr g 9 cur2 ∧ Fr (fun j => j = g) w wr) (fun _ iv _ => n + 1 - (intOf iv).toNat)
        case atStart => exact ⟨0,m + 1,cur,rfl,by omega,by simp,HKL.symm,HST,rfl,(HB.fr HF.out id).drewN _,(HF.mono uu).drewN _⟩
        case round =>
         obtain ⟨i,kk,cur2,rfl,hin,rfl,hkk,hdc,hcs2,hbr,hf⟩ := hrel;have hle := hdc.le;rw [← hkk] at hle;have HKK := Hd hkk;have HDC := Hd hdc;have HCS := Hd hcs2;have HBR := Hd hbr;have HFR := Hd hf;by_cases hi : m + 1 + i + 1 < n
         · obtain ⟨x1,hx1⟩ : ∃ x,ss[m + 1 + i]? = some x := ⟨_,List.getElem?_eq_getElem (by rw [HL.out]; omega)⟩;obtain ⟨y1,hy1⟩ : ∃ y,ss[m + 1 + i + 1]? = some y := ⟨_,List.getElem?_eq_getElem (by rw [HL.out]; omega)⟩;have c0 : wr.cell? ⟨g,m + 1 + i,none⟩ = some (.string x1) := by rw [hbr.cell]; exact hdc.rest _ _ jj hx1
           have c1 : wr.cell? ⟨g,m + 1 + (i + 1),none⟩ = some (.string y1) := by rw [hbr.cell]; exact hdc.rest _ _ jj hy1
           have hlt : (i : Int) + 1 < ((n - (m + 1) : Nat) : Int) := jj;obtain ⟨vk,hvk⟩ : ∃ v,wr.cell? ⟨g,kk,none⟩ = some v := ⟨_,by rw [hbr.cell,Array.getElem?_eq_getElem (by have := hdc.size; omega)]⟩;have hfz : wr.frozen? ⟨g,kk,none⟩ = false := hbr.frozen kk;clear hkk hdc hcs2 hbr hf;by_cases hxy1 : x1 = y1
           · subst hxy1;have hne1 : (x1.toList == x1.toList) = true := by simp
             have hds := jB hx1 hy1;have HDS := Hd hds;have HDN := Hd (HDC.same hx1 hy1);clear hx1 hy1 hds;go_wp2_with fail
             go_quiet (fail);go_wp2_with fail;go_roundw
             case rel => exact ⟨i + 1,kk,cur2,by go_num,by omega,rfl,by rw [HKK.out]; exact congrArg List.length HDS.symm,HDN,HCS,HBR.drewN _,HFR.drewN _⟩
             case measure => simp [intOf]; omega
           · have hne1 : (y1.toList == x1.toList) = false := xw (fun e => hxy1 e.symm);have hds := pm hx1 hy1 hxy1;have HDS := Hd hds;have HDN := Hd (HDC.new hx1 hy1 hxy1 jj);clear hx1 hy1 hds;go_wp2_with fail
             go_quiet (fail);go_wp2_with fail;go_roundw
             case rel => exact ⟨i + 1,kk + 1,_,by go_num,by omega,by go_num,by rw [HKK.out]; have := congrArg List.length HDS.out; rw [List.length_append] at this; exact this.symm,HDN,by rw [Array.size_setIfInBounds]; exact HCS,by rw [← HKK.out]; exact (HBR.drewN _).set_ kk (.string y1),(HFR.drewN _).setCell ⟨g,kk,none⟩ (fun _ => rfl) _⟩
             case measure => simp [intOf]; omega
         · have hlt : ¬ (i : Int) + 1 < ((n - (m + 1) : Nat) : Int) := jj;have hfull : ss.take (m + 1 + i + 1) = ss := List.take_of_length_le (by rw [HL.out]; omega);have hclr := fun ty => mR (o := kk) (m := n - kk) (c := c - kk) hbr jj (by have := hdc.size; omega) ty;obtain ⟨cur3,hcur3⟩ : ∃ cur3,cur3 = (cur2.toList.take kk ++ List.replicate (n - kk) (Value.string ⟨#[]⟩) ++ cur2.toList.drop (kk + (n - kk))).toArray := ⟨_,rfl⟩;rw [← hcur3] at hclr;have hsz3 : cur3.size = cur2.size := by
            have := hdc.size;rw [hcur3];simp;omega
           have hhere : ∀ (j : Nat) (x : ByteArray),(ded ss)[j]? = some x → cur3[j]? = some (Value.string x) := fun j x hj => by
            have hjl : j < kk := by
             have := (List.getElem?_eq_some_iff.1 hj).1;rw [hkk,hfull];exact this
            have h1 := hdc.here j x (by rw [hfull]; exact hj);rw [hcur3];have h2 := hdc.size;rw [List.getElem?_toArray,List.append_assoc,List.getElem?_append_left (by simp; omega),List.getElem?_take,if_pos hjl,Array.getElem?_toList];exact h1
           have hpost := HDONE (wr.setRow g cur3) cur3 (hsz3.trans hcs2) (cf hbr cur3) hhere (dr hf cur3 (fun _ => rfl));rw [show (ded ss).length = kk by rw [hkk,hfull]] at hpost;have HP := Hd hpost;clear hkk hdc hcs2 hbr hf hpost hhere hsz3 hcur3 hfull;go_wp2_with fail;go_ret;exact HP
      · have hxx : (y.toList == x.toList) = false := xw (fun e => hxy e.symm);have hd2 := xy HD (by rw [HL.out]; exact hk) (by rw [hx,hy]; exact fun e => hxy (Option.some.inj e));have HD2 := Hd hd2;clear hf hd hbr hx hy hd2;go_wp2_with fail
        go_quiet (fail);go_wp2_with fail;go_roundw
        case rel => exact ⟨m + 1,by omega,by go_num,HD2,HF.drewN _⟩
        case measure => simp [intOf]; omega
    · have hk' : ¬ (m : Int) + 1 < (n : Int) := jj;have hmn : m + 1 = n := jj;have hds : ded ss = ss := by
       have := HD.out;rw [hmn,List.take_of_length_le (by rw [HL.out]; exact Nat.le_refl _)] at this;exact this
      have hpost := HDONE.out wr cur rfl hbr (by rw [hds]; exact HC) (HF.mono uu);rw [hds,HL.out] at hpost;have HP := Hd hpost;clear hpost hbr hd hf;go_wp2_with fail;go_ret;exact HP
def df (ss : List ByteArray) : List ByteArray := ((ss.map fun s => s.data.toList).mergeSort fun x y => decide (x ≤ y)).map fun l => ⟨l.toArray⟩
theorem vB (ss : List ByteArray) : (df ss).length = ss.length := by unfold df; simp
theorem xB (ss : List ByteArray) : (ss.map fun s => s.data.toList).map Go.Proofs.encStr = ss.map Value.string := by
 rw [List.map_map];apply List.map_congr_left;intro s _;show Value.string ⟨s.data.toList.toArray⟩ = Value.string s;congr 1
theorem Av (ls : List (List UInt8)) : ls.map Go.Proofs.encStr = (ls.map fun l => (⟨l.toArray⟩ : ByteArray)).map Value.string := by
 rw [List.map_map];rfl
theorem vC (g n c B : Nat) (ss : List ByteArray) (w : World) (hn : n ≤ 4096) (hr : w.ownsRow B 9 1 (.slice (some ⟨g,0,none⟩) n c) n (ss.map .string)) :
    Calls prog 83 #[.slice (some ⟨g,0,none⟩) n c] w fun e w' => e = .returned (.tuple #[]) ∧ w'.ownsRow B 9 1 (.slice (some ⟨g,0,none⟩) n c) n ((df ss).map .string) ∧ Fr (fun j => j = g) w w' := by
 have hl : ss.length = n := by have := hr.1; simpa using this
 subst hl;obtain ⟨ls,hls⟩ : ∃ ls,ls = ss.map fun s => s.data.toList := ⟨_,rfl⟩;have hll : ls.length = ss.length := by rw [hls]; simp
 have he : ss.map Value.string = ls.map Go.Proofs.encStr := by rw [hls,xB]
 have ho : (df ss).map Value.string = (ls.mergeSort fun x y => decide (x ≤ y)).map Go.Proofs.encStr := by
  rw [Av,hls];rfl
 rw [ho];rw [he] at hr;rw [← hll] at hr hn ⊢;rcases hr.2 with ⟨h1,_⟩ | ⟨g',cap,cur,h1,hbase,hb,h2,h3,h4,h5⟩
 · cases h1
 · injection h1 with h1 _ h1c;injection h1 with h1;injection h1 with h1;subst h1 h1c;refine (Tryz.slices_Sort_string g 0 c ls w (holds_of_block hb (by simpa using h5)) (Array.getElem?_eq_some_iff.1 hb).1 jj).mono ?_;rintro e w' ⟨rfl,nn,os,rfl⟩;exact ⟨rfl,ownsRow_sorted (by simp) hbase hb h2 h3 h4,(Fr.of_grown (grownBy_sorted _)).mono (fun k _ h => by injection h with h; exact h.symm)⟩
theorem nJ (g n c : Nat) (ss : List ByteArray) (w : World) (hn0 : 0 < n) (hn : n ≤ 9) (hc : ∀ j,j < n → w.cell? ⟨g,j,none⟩ = some (.string (ss.getD j ByteArray.empty))) (hl : ss.length = n) :
    Calls prog 34 #[.slice (some ⟨g,0,none⟩) n c] w (eK w (ded (df ss)).length (ded (df ss))) := by
 have HCL := Hd (m7 g n c ss w jj hn0 hc hl);have HS := Hd (fun g c B w hr => vC g n c B ss w jj hr);have HP := Hd (fun g c B w hc => xA g n c B (df ss) w hn hc);unfold po at HP;clear hc;generalize ded (df ss) = ts at *;generalize df ss = us at *;go_enter func34,ntmps34;go_wp2_with fail;refine HCL.mono ?_;rintro e w1 ⟨A,c1,rfl,hrow1,hf1⟩;have HF1 := Hd hf1;have HR1 := Hd hrow1;clear hf1 hrow1;go_wp2_with fail;refine (HS.out A c1 _ _ HR1).mono ?_;rintro e w2 ⟨rfl,hr2,hf2⟩;have hA : w.heap.size ≤ A := (HR1.lt A rfl).1;have HF2 := Hd ((HF1.mono (T := fun j => j = A) uu).trans' hf2);have HR2 := Hd hr2;clear hf2 hr2;go_wp2_with fail;refine (HP.out A c1 _ _ HR2).mono ?_;rintro e w3 ⟨rfl,hr3,hf3⟩;have HF3 := Hd (HF2.trans' hf3);have HR3 := Hd hr3;clear hf3 hr3;go_wp2_with fail;go_ret;exact ⟨_,c1,rfl,HR3,HF3.mono (fun j hj h => by omega)⟩
end Go.Proofs.YtfaapkpebnagmaaGreatDoor
