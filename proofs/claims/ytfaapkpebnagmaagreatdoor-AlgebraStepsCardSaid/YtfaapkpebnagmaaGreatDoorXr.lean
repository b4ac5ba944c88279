/- Texts of the proof, one behind the other: Oe, Oh, Oi, Om, Xn, On, Oo. -/
import Derived.Test.YtfaapkpebnagmaaGreatDoorXq
namespace Go.Proofs.YtfaapkpebnagmaaGreatDoor
open _root_.Go.Proofs.Tryz
open Go.RowKit Go
set_option linter.unusedVariables false
set_option maxRecDepth 100000
set_option maxHeartbeats 400000000
variable {w w' a b : World} {B c mb n x m : Nat} {φ : ByteArray → Int} {S K T : Nat → Prop} {f : ByteArray → Value} {z v : Value} {ty : TypeId} {ts : List PT} {L : List (List Value)} {A : Option Addr} {t : PT} {mv : MS} {s e : Int} {l : List Value}
theorem Fr.up (h : Fr (fun _ => False) w a) : Fr (fun j => w.heap.size ≤ j) w a := h.mono uu
theorem Fr.andF (h : Fr S w a) (h2 : Fr (fun _ => False) a b) : Fr S w b := h.trans h2 uu
theorem Fr.andX (h : Fr (fun j => w.heap.size ≤ j) w a) (h2 : Fr (fun j => j = x) a b) (hx : w.heap.size ≤ x) : Fr (fun j => w.heap.size ≤ j) w b := h.trans h2 (fun j _ e => by omega)
inductive TBt (f : ByteArray → Value) (z : Value) (ty : TypeId) (w : World) (S : Nat → Prop) : PT → List Value → Prop
 | leaf (k : Int) (i : ByteArray) : TBt f z ty w S (.leaf k i) [.int .i64 k,f i,.slice none 0 0]
 | node (k : Int) (ts : List PT) (A : Option Addr) (c : Nat) (L : List (List Value)) (hL : L.length = ts.length) (hp : ∀ (i : Nat) t l,ts[i]? = some t → L[i]? = some l → TBt f z ty w S t l) (hr : w.ownsRow 0 ty 3 (.slice A ts.length c) ts.length L.flatten) (hS : ∀ g,(Value.slice A ts.length c).ownBlock = some g → S g) :
  TBt f z ty w S (.node k ts) [.int .i64 k,z,.slice A ts.length c]
theorem TBt.fr (hf : Fr T w w') (hS : ∀ j,S j → ¬ T j) {t : PT} {l : List Value} (h : TBt f z ty w S t l) : TBt f z ty w' S t l := by
 induction h with
 | leaf k i => exact .leaf k i
 | node k ts A c L hL hp hr hs ih => exact .node k ts A c L hL ih (aa hr hf fun j hj => hS j (hs j hj)) hs
theorem TBt.imp {S' : Nat → Prop} (hS : ∀ j,j < w.heap.size → S j → S' j) {t : PT} {l : List Value} (h : TBt f z ty w S t l) : TBt f z ty w S' t l := by
 induction h with
 | leaf k i => exact .leaf k i
 | node k ts A c L hL hp hr hs ih => exact .node k ts A c L hL ih hr fun j hj => hS j (World.ownsRow.lt hr _ hj).2 (hs j hj)
structure cW (f : ByteArray → Value) (z : Value) (ty : TypeId) (w : World) (B : Nat) (v : Value) (ts : List PT) (L : List (List Value)) : Prop where
 len : L.length = ts.length
 each : ∀ (i : Nat) t l,ts[i]? = some t → L[i]? = some l → TBt f z ty w (fun j => B ≤ j ∧ v.ownBlock ≠ some j) t l
 row : w.ownsRow B ty 3 v ts.length L.flatten
theorem cW.frF (h : cW f z ty w B v ts L) (hf : Fr (fun _ => False) w w') : cW f z ty w' B v ts L :=
 ⟨h.len,fun i t l h1 h2 => (h.each i t l h1 h2).fr hf ii,aa h.row hf ii⟩
theorem cW.push {g : Nat} (h : cW f z ty w B v ts L) (ht : TBt f z ty w (fun j => B ≤ j ∧ v.ownBlock ≠ some j) t l)
    (hr : w'.ownsRow B ty 3 (.slice (some ⟨g,0,none⟩) (ts.length + 1) c) (ts.length + 1) (L.flatten ++ l)) (hg : w.grownBy w' v.ownBlock) (hor : v.ownBlock = some g ∨ g = w.heap.size) : cW f z ty w' B (.slice (some ⟨g,0,none⟩) (ts.length + 1) c) (ts ++ [t]) (L ++ [l]) := by
 have hK : ∀ t l,TBt f z ty w (fun j => B ≤ j ∧ v.ownBlock ≠ some j) t l → TBt f z ty w' (fun j => B ≤ j ∧ (Value.slice (some ⟨g,0,none⟩) (ts.length + 1) c).ownBlock ≠ some j) t l := fun t l h => by
  have h1 := h.imp (S' := fun j => B ≤ j ∧ (Value.slice (some ⟨g,0,none⟩) (ts.length + 1) c).ownBlock ≠ some j ∧ v.ownBlock ≠ some j) (fun j hj hb => ⟨hb.1,fun e => by
   injection e with e;have e : g = j := e;rcases hor with h2 | h2
   · exact hb.2 (by rw [h2,e])
   · omega,hb.2⟩)
  refine TBt.imp (S := fun j => B ≤ j ∧ (Value.slice (some ⟨g,0,none⟩) (ts.length + 1) c).ownBlock ≠ some j ∧ v.ownBlock ≠ some j) (fun j _ hb => ⟨hb.1,hb.2.1⟩) (h1.fr (Fr.of_grown hg) fun j hb => hb.2.2)
 refine ⟨by simp [h.len],fun i t' l' h1 h2 => ?_,by simpa using hr⟩;by_cases hi : i < ts.length
 · rw [List.getElem?_append_left hi] at h1;rw [List.getElem?_append_left (by rw [h.len]; exact hi)] at h2;exact hK _ _ (h.each i t' l' h1 h2)
 · rw [List.getElem?_append_right jj] at h1;rw [List.getElem?_append_right (by rw [h.len]; omega),h.len] at h2;generalize i - ts.length = m at h1 h2;cases m with
   | zero =>
    injection h1 with h1;injection h2 with h2;rw [← h1,← h2];exact hK _ _ ht
   | succ m => cases h1
theorem cW.frX (h : cW f z ty w B v ts L) (hxB : x < B) (hf : Fr (fun j => j = x) w w') : cW f z ty w' B v ts L :=
 ⟨h.len,fun i t l h1 h2 => (h.each i t l h1 h2).fr hf (fun j hj e => by have := hj.1; omega),aa h.row hf (fun k hk e => by have := bs h.row hk; omega)⟩
theorem cW.nil (w : World) (B : Nat) : cW f z ty w B (.slice none 0 0) [] [] :=
 ⟨rfl,fun i t l h _ => by simp at h,World.ownsRow_nil _ _ _ _⟩
theorem TBt.cells (h : TBt f z ty w S t l) : ∃ (k : Int) (v : Value) (A : Option Addr) (n c : Nat),l = [.int .i64 k,v,.slice A n c] ∧ (v = z ∨ ∃ i,v = f i) := by
 cases h with
 | leaf k i => exact ⟨_,_,_,_,_,rfl,.inr ⟨i,rfl⟩⟩
 | node k ts A c L hL hp hr hs => exact ⟨_,_,_,_,_,rfl,.inl rfl⟩
theorem cW.node (k : Int) (h : cW f z ty w B (.slice A ts.length c) ts L) : TBt f z ty w (fun j => B ≤ j) (.node k ts) [.int .i64 k,z,.slice A ts.length c] :=
 .node k ts A c L h.len (fun i t l h1 h2 => (h.each i t l h1 h2).imp (fun _ _ hb => hb.1)) (ai h.row (Nat.zero_le _)) (fun g hg => bs h.row hg)
abbrev nF (φ : ByteArray → Int) (i : ByteArray) : Value := .int .i64 (φ i)
abbrev nZ : Value := .int .i64 0
def NAt (φ : ByteArray → Int) (w : World) (B : Nat) (t : PT) (l : List Value) : Prop := TBt (nF φ) nZ 332 w (fun j => B ≤ j) t l
inductive ia : PT → Prop
 | leaf (k : Int) (i : ByteArray) (h : k = 0 ∨ k = 1) : ia (.leaf k i)
 | node (k : Int) (ts : List PT) (h : 2 ≤ k) (h2 : k ≤ 6) (hp : ∀ t,t ∈ ts → ia t) : ia (.node k ts)
mutual
inductive ki (φ : ByteArray → Int) : PT → MS → Nat → MS → Nat → Prop
 | leaf (k : Int) (i : ByteArray) (mv : MS) (s : Nat) (h : k = 0 ∨ k = 1) : ki φ (.leaf k i) mv s (fW (mv ++ [[]]) s (φ i,k == 1,false,mv.length)) mv.length
 | seq (ts : List PT) (mv mv' : MS) (s e : Nat) (h : l7 φ ts mv s mv' e) : ki φ (.node 2 ts) mv s mv' e
 | alt (ts : List PT) (mv mv' : MS) (s : Nat) (h : kH φ ts s mv.length (mv ++ [[]]) mv') : ki φ (.node 3 ts) mv s mv' mv.length
inductive l7 (φ : ByteArray → Int) : List PT → MS → Nat → MS → Nat → Prop
 | nil (mv : MS) (s : Nat) : l7 φ [] mv s mv s
 | cons (t : PT) (ts : List PT) (mv mv1 mv2 : MS) (s s1 s2 : Nat) (h : ki φ t mv s mv1 s1) (h2 : l7 φ ts mv1 s1 mv2 s2) : l7 φ (t :: ts) mv s mv2 s2
inductive kH (φ : ByteArray → Int) : List PT → Nat → Nat → MS → MS → Prop
 | nil (s en : Nat) (mv : MS) : kH φ [] s en mv mv
 | cons (t : PT) (ts : List PT) (s en : Nat) (mv mv1 mv2 : MS) (e : Nat) (h : ki φ t (bz (mv ++ [[]]) s mv.length) mv.length mv1 e) (h2 : kH φ ts s en (bz mv1 e en) mv2) : kH φ (t :: ts) s en mv mv2
end
def rh (φ : ByteArray → Int) (t : PT) : Prop := ∀ mv s mv' e,ki φ t mv s mv' e → s < mv.length → msz mv ≤ msz mv' ∧ mv.length ≤ mv'.length ∧ e < mv'.length
theorem l7.grows : ∀ (ts : List PT) (hR : ∀ t ∈ ts,rh φ t) {mv mv' : MS} {s e : Nat} (h : l7 φ ts mv s mv' e) (hs : s < mv.length),msz mv ≤ msz mv' ∧ mv.length ≤ mv'.length ∧ e < mv'.length
 | [],_,_,_,_,_,h,hs => by
  cases h
  exact ⟨Nat.le_refl _,Nat.le_refl _,hs⟩
 | t :: ts,hR,_,_,_,_,h,hs => by
  cases h with
  | cons _ _ mv mv1 mv2 s s1 s2 h h2 =>
   obtain ⟨a,b,c⟩ := hR t (by simp) _ _ _ _ h hs;obtain ⟨a2,b2,c2⟩ := l7.grows ts (fun t ht => hR t (by simp [ht])) h2 c;exact ⟨by omega,by omega,c2⟩
theorem fp (mv : MS) (i j : Nat) : (bz mv i j).length = mv.length := kg _ _ _
theorem kH.grows : ∀ (ts : List PT) (hR : ∀ t ∈ ts,rh φ t) {s en : Nat} {mv mv' : MS} (h : kH φ ts s en mv mv') (hs : s < mv.length) (ht : en < mv.length),msz mv ≤ msz mv' ∧ mv.length ≤ mv'.length
 | [],_,_,_,_,_,h,_,_ => by
  cases h
  exact ⟨Nat.le_refl _,Nat.le_refl _⟩
 | t :: ts,hR,s,en,mv,mv2,h,hs,ht => by
  cases h with
  | cons _ _ _ _ _ mv1 _ e h h2 =>
   have l0 : (bz (mv ++ [[]]) s mv.length).length = mv.length + 1 := by rw [fp]; simp
   have z0 : msz (bz (mv ++ [[]]) s mv.length) = msz mv + 2 := by unfold bz; rw [gx _ _ _ (by simp; omega),fm]
   obtain ⟨a,b,c⟩ := hR t (by simp) _ _ _ _ h jj;have l1 : (bz mv1 e en).length = mv1.length := fp _ _ _;have z1 : msz (bz mv1 e en) = msz mv1 + 1 := gx _ _ _ c;obtain ⟨a2,b2⟩ := kH.grows ts (fun t ht => hR t (by simp [ht])) h2 jj jj;exact ⟨by omega,by omega⟩
theorem rj (hw : iH t) : rh φ t := by
 induction hw with
 | leaf k i =>
  intro mv s mv' e h hs;cases h with
  | leaf _ _ _ _ h =>
   rw [gx _ _ _ (by simp; omega),fm,kg];refine ⟨by omega,by simp,by simp⟩
 | node k ts hl hp ih =>
  intro mv s mv' e h hs;cases h with
  | seq _ _ _ _ _ h => exact h.grows _ ih hs
  | alt _ _ _ _ h =>
   obtain ⟨a,b⟩ := h.grows _ ih (by simp; omega) (by simp);rw [fm] at a;simp at b;exact ⟨by omega,by omega,by omega⟩
def aW (kind : Nat) (p q a : ByteArray) : PT :=
 match kind with
 | 0 => .node 2 [.leaf 0 p,.leaf 0 q]
 | 1 => .node 2 [.leaf 0 p,.leaf 1 p]
 | 2 => .node 3 [.leaf 0 p,.leaf 0 q]
 | 3 => .leaf 1 a
 | 4 => .node 2 [.node 2 [.leaf 0 p,.leaf 0 q],.leaf 0 a]
 | _ => .node 2 [.leaf 0 p,.node 3 [.leaf 0 q,.leaf 0 p]]
theorem FL (φ : ByteArray → Int) (kind : Nat) (p q a : ByteArray) : ki φ (aW kind p q a) [[]] 0 (mvK kind (φ p) (φ q) (φ a)) (BA kind) := by
 have L0 : ∀ i mv s,ki φ (.leaf 0 i) mv s (fW (mv ++ [[]]) s (φ i,false,false,mv.length)) mv.length := fun i mv s => .leaf 0 i mv s (.inl rfl);have L1 : ∀ i mv s,ki φ (.leaf 1 i) mv s (fW (mv ++ [[]]) s (φ i,true,false,mv.length)) mv.length := fun i mv s => .leaf 1 i mv s (.inr rfl)
 match kind with
 | 0 => exact .seq _ _ _ _ _ (.cons _ _ _ _ _ _ _ _ (L0 _ _ _) (.cons _ _ _ _ _ _ _ _ (L0 _ _ _) (.nil _ _)))
 | 1 => exact .seq _ _ _ _ _ (.cons _ _ _ _ _ _ _ _ (L0 _ _ _) (.cons _ _ _ _ _ _ _ _ (L1 _ _ _) (.nil _ _)))
 | 2 => exact .alt _ _ _ _ (.cons _ _ _ _ _ _ _ _ (L0 _ _ _) (.cons _ _ _ _ _ _ _ _ (L0 _ _ _) (.nil _ _ _)))
 | 3 => exact L1 _ _ _
 | 4 => exact .seq _ _ _ _ _ (.cons _ _ _ _ _ _ _ _ (.seq _ _ _ _ _ (.cons _ _ _ _ _ _ _ _ (L0 _ _ _) (.cons _ _ _ _ _ _ _ _ (L0 _ _ _) (.nil _ _)))) (.cons _ _ _ _ _ _ _ _ (L0 _ _ _) (.nil _ _)))
 | k + 5 => exact .seq _ _ _ _ _ (.cons _ _ _ _ _ _ _ _ (L0 _ _ _) (.cons _ _ _ _ _ _ _ _ (.alt _ _ _ _ (.cons _ _ _ _ _ _ _ _ (L0 _ _ _) (.cons _ _ _ _ _ _ _ _ (L0 _ _ _) (.nil _ _ _)))) (.nil _ _)))
theorem kS {e : Nat} {L : List Value} (h : w.ownsRow B e m (.slice A n c) n L) : (n : Int) ≤ (c : Int) := by
 rcases h.2 with ⟨h0,h1⟩ | ⟨gg,cap,cur,h0,_,_,hc,_⟩
 · omega
 · injection h0 with _ _ h0;omega
theorem jN {e : Nat} {L : List Value} (h : w.ownsRow B e m (.slice A n c) n L) (hn : 0 < n) : ∃ g,A = some ⟨g,0,none⟩ := by
 rcases h.2 with ⟨h0,h1⟩ | ⟨gg,cap,cur,h0,_⟩
 · omega
 · injection h0 with h0 _ _;exact ⟨gg,h0⟩
theorem MSt.andF {w1 w2 : World} (h : MSt B K mb mv s e w w1) (hf : Fr (fun _ => False) w1 w2) : MSt B K mb mv s e w w2 := ⟨h.1.frF hf,h.2.andF hf⟩
def yp (φ : ByteArray → Int) (t : PT) : Prop := ∀ (B : Nat) (K : Nat → Prop) (mb : Nat) (mv : MS) (s : Nat) (mv' : MS) (e : Nat) (b0 e0 : Int),ki φ t mv s mv' e → msz mv' ≤ 2000 → s < mv.length →
 ∀ (S : Nat → Prop) (w : World) (l : List Value),b6 w B K mb mv b0 e0 → B ≤ w.heap.size → (∀ j,j < w.heap.size → S j → ¬ K j) → TBt (nF φ) nZ 332 w S t l →
  Calls prog 350 #[.pointer (some ⟨mb,0,none⟩),.agg l.toArray,.int .i64 (s : Int)] w (nY B K mb mv' b0 e0 (.int .i64 (e : Int)) w)
structure bF (φ : ByteArray → Int) (w : World) (S : Nat → Prop) (A : Option Addr) (c : Nat) (ts : List PT) (L : List (List Value)) : Prop where
 len : L.length = ts.length
 each : ∀ (i : Nat) t l,ts[i]? = some t → L[i]? = some l → TBt (nF φ) nZ 332 w S t l
 row : w.ownsRow 0 332 3 (.slice A ts.length c) ts.length L.flatten
 own : ∀ g,(Value.slice A ts.length c).ownBlock = some g → S g
theorem bF.fr (h : bF φ w S A c ts L) (hf : Fr T w w') (hS : ∀ j,S j → ¬ T j) : bF φ w' S A c ts L :=
 ⟨h.len,fun i t l h1 h2 => (h.each i t l h1 h2).fr hf hS,aa h.row hf (fun j hj => hS j (h.own j hj)),h.own⟩
theorem bF.low (h : bF φ w S A c ts L) : bF φ w (fun j => S j ∧ j < w.heap.size) A c ts L :=
 ⟨h.len,fun i t l h1 h2 => (h.each i t l h1 h2).imp (fun j hj hb => ⟨hb,hj⟩),h.row,fun g hg => ⟨h.own g hg,(h.row.lt g hg).2⟩⟩
theorem bF.three (h : bF φ w S A c ts L) : ∀ l ∈ L,l.length = 3 := fun l hl => by
 obtain ⟨i,hi⟩ := List.getElem?_of_mem hl;have hlt := (List.getElem?_eq_some_iff.1 hi).1;have ht := List.getElem?_eq_getElem (l := ts) (i := i) (by rw [← h.len]; exact hlt);obtain ⟨k,t,A',n,c',rfl,_⟩ := TBt.cells (h.each i _ l ht hi);rfl
theorem BC (φ : ByteArray → Int) (ts : List PT) (hn5 : ts.length ≤ 5000) (IH : ∀ t ∈ ts,yp φ t) (HG : ∀ t ∈ ts,rh φ t) (B : Nat) (K : Nat → Prop) (mb : Nat) (mv : MS) (s : Nat) (mv' : MS) (e : Nat) (b0 e0 : Int) (hL : l7 φ ts mv s mv' e) (hsz : msz mv' ≤ 2000) (hs : s < mv.length)
    (S : Nat → Prop) (w : World) (A : Option Addr) (c : Nat) (L : List (List Value)) (h : b6 w B K mb mv b0 e0) (hB : B ≤ w.heap.size) (hS : ∀ j,j < w.heap.size → S j → ¬ K j) (hP : bF φ w S A c ts L) :
    Calls prog 350 #[.pointer (some ⟨mb,0,none⟩),.agg #[.int .i64 2,.int .i64 0,.slice A ts.length c],.int .i64 (s : Int)] w (nY B K mb mv' b0 e0 (.int .i64 (e : Int)) w) := by
 obtain ⟨n,hn⟩ : ∃ n,n = ts.length := ⟨_,rfl⟩;have hcap := kS hP.row;rw [← hn] at hn5 hcap ⊢;have hf0 := Fr.a1 w (.cells #[.int .i64 2,.int .i64 0,.slice A n c] 332);have hx := Blk.new w 332 #[.int .i64 2,.int .i64 0,.slice A n c];have x0 := hx.c0;have x2 := hx.c2;have HST := Hd ((MSt.start h hB).andF hf0);have HP := Hd hP.low;have HS := Hd (show ∀ j,(S j ∧ j < w.heap.size) → ¬ K j from fun j hj => hS j hj.2 hj.1);have HL := Hd hL;have HIH := Hd IH;have HGG := Hd HG;have HN := Hd hn;clear hx hf0 h hP hS hL IH HG hn;go_enter func350,ntmps350;go_wp2_with fail;generalize (w.alloc (.cells #[.int .i64 2,.int .i64 0,.slice A n c] 332)) = wb at *;clear x0 x2
 go_loopw [2,49] (fun fv iv wr => ∃ (j sj : Nat) (mvj : MS),iv = .int .i64 (j : Int) ∧ fv = .int .i64 (sj : Int) ∧ j ≤ n ∧ MSt B K mb mvj b0 e0 w wr ∧ l7 φ (ts.drop j) mvj sj mv' e ∧ sj < mvj.length) (fun _ iv _ => n - (intOf iv).toNat)
 case atStart => exact ⟨0,s,mv,rfl,rfl,Nat.zero_le _,HST,HL,hs⟩
 case round =>
  clear HL;obtain ⟨j,sj,mvj,rfl,rfl,hj,hst,hls,hsj⟩ := hrel;have HSTJ := Hd hst;by_cases hlt : j < n
  · have hlt' : (j : Int) < (n : Int) := jj;have hjt : j < ts.length := by rw [← HN.out]; exact hlt
    have hp := HP.fr hst.2 HS.out;have hjL : j < L.length := by rw [hp.len]; exact hjt
    have e1 := List.getElem?_eq_getElem hjL;have et := List.getElem?_eq_getElem hjt;have hpa := hp.each j _ _ et e1;obtain ⟨g1,hA⟩ := jN hp.row jj;subst hA;have hr1 := eF hp.row hp.three e1;rw [List.drop_eq_getElem_cons hjt] at hls;have htm : ts[j] ∈ ts := List.getElem_mem _;have hdm : ∀ t ∈ ts.drop (j + 1),t ∈ ts := fun t ht => List.mem_of_mem_drop ht;obtain ⟨mv1,s1,hl1,hl2⟩ : ∃ mv1 s1,ki φ ts[j] mvj sj mv1 s1 ∧ l7 φ (ts.drop (j + 1)) mv1 s1 mv' e := by
     cases hls with
     | cons _ _ _ mv1 _ _ s1 _ h h2 => exact ⟨mv1,s1,h,h2⟩
    obtain ⟨q1,q2,q3⟩ := HGG _ htm _ _ _ _ hl1 hsj;have hgr := l7.grows _ (fun t ht => HGG.out t (hdm t ht)) hl2 q3;have HC := Hd (fun (w1 : World) (l : List Value) (hfw : Fr (fun _ => False) wr w1) (hl : TBt (nF φ) nZ 332 w1 (fun j => S j ∧ j < w.heap.size) ts[j] l) => HIH _ htm B (K1 K w wr) mb mvj sj mv1 s1 b0 e0 hl1 jj hsj (fun j => S j ∧ j < w.heap.size) w1 l (hst.mach hfw) (by have := hst.2.size; have := hfw.size; omega) (fun j hj h h2 => by
     rcases h2.1 with h3 | h3
     · exact HS.out j h h3.1
     · have := h.2;omega) hl)
    obtain ⟨k3,v3,A3,n3,c3,hl1',hv3⟩ := TBt.cells hpa;rw [hl1',Nat.mul_comm] at hr1;rw [hl1'] at hpa;have p0 : wr.cell? ⟨g1,j * 3,none⟩ = some (.int .i64 k3) := hr1 0 _ rfl;have p1 : wr.cell? ⟨g1,j * 3 + 1,none⟩ = some v3 := hr1 1 _ rfl;have p2 : wr.cell? ⟨g1,j * 3 + 2,none⟩ = some (.slice A3 n3 c3) := hr1 2 _ rfl;have hv3c : ∃ z : Int,v3 = .int .i64 z := by
     rcases hv3 with h | ⟨i,h⟩
     · exact ⟨_,h⟩
     · exact ⟨_,h⟩
    obtain ⟨z3,rfl⟩ := hv3c;have HC2 := Hd (HC (wr.alloc (.cells #[.int .i64 k3,.int .i64 z3,.slice A3 n3 c3] 332)) _ ((Fr.refl _ _).alloc _) (hpa.fr ((Fr.refl (fun _ => False) _).alloc _) ii));have HL2 := Hd hl2;have HQ := Hd q3;clear hp hjL e1 et hpa hr1 hls hdm hl1 hl2 q1 q2 q3 hgr HC hl1' hv3 hst hsj;go_wp2_with (go_at_call 350; refine HC2.mono ?_; rintro e2 w2 ⟨rfl,hst2⟩);have HST2 := Hd (MSt.comp HSTJ ((Fr.refl _ _).alloc _) hst2);clear hst2;go_roundw
    case rel => exact ⟨j + 1,s1,mv1,by go_num,rfl,hlt,HST2,HL2,HQ⟩
    case measure => simp only [intOf]; omega
  · obtain rfl : j = n := jj;have hfin : mvj = mv' ∧ sj = e := by
     rw [HN.out,List.drop_length] at hls;cases hls
     exact ⟨rfl,rfl⟩
    obtain ⟨rfl,rfl⟩ := hfin;clear hls hst;go_wp2_with fail;go_ret;exact ⟨rfl,HSTJ⟩
theorem BD (φ : ByteArray → Int) (ts : List PT) (hn5 : ts.length ≤ 5000) (IH : ∀ t ∈ ts,yp φ t) (HG : ∀ t ∈ ts,rh φ t) (B : Nat) (K : Nat → Prop) (mb : Nat) (mv : MS) (s : Nat) (mv' : MS) (b0 e0 : Int) (hL : kH φ ts s mv.length (mv ++ [[]]) mv') (hsz : msz mv' ≤ 2000) (hs : s < mv.length)
    (S : Nat → Prop) (w : World) (A : Option Addr) (c : Nat) (L : List (List Value)) (h : b6 w B K mb mv b0 e0) (hB : B ≤ w.heap.size) (hS : ∀ j,j < w.heap.size → S j → ¬ K j) (hP : bF φ w S A c ts L) :
    Calls prog 350 #[.pointer (some ⟨mb,0,none⟩),.agg #[.int .i64 3,.int .i64 0,.slice A ts.length c],.int .i64 (s : Int)] w (nY B K mb mv' b0 e0 (.int .i64 (mv.length : Int)) w) := by
 obtain ⟨n,hn⟩ : ∃ n,n = ts.length := ⟨_,rfl⟩;have hcap := kS hP.row;have hg0 := kH.grows _ HG hL (by simp; omega) (by simp);rw [fm] at hg0;have hml := jK mv;rw [← hn] at hn5 hcap ⊢;have hf0 := Fr.a1 w (.cells #[.int .i64 3,.int .i64 0,.slice A n c] 332);have hx := Blk.new w 332 #[.int .i64 3,.int .i64 0,.slice A n c];have HX := Hd hx;have x0 := hx.c0;have hst0 := MSt.start h hB;have HST0 := Hd hst0;have HF0 := Hd hf0;have HSC := Hd (jM B _ mb mv b0 e0 _ (hst0.mach hf0) (by simp; omega) jj);have hnk : ¬ K1 K w w w.heap.size := fun h => by have := h.2; omega
 have HNK := Hd hnk;have HP := Hd hP.low;have HS := Hd (show ∀ j,(S j ∧ j < w.heap.size) → ¬ K j from fun j hj => hS j hj.2 hj.1);have HL := Hd hL;have HIH := Hd IH;have HGG := Hd HG;have HN := Hd hn;obtain ⟨en,hen⟩ : ∃ en,en = mv.length := ⟨_,rfl⟩;rw [← hen] at HL HSC ⊢;have HEN := Hd hen;clear hx hf0 h hP hS hL IH HG hn hst0 hnk hg0 hen;go_enter func350,ntmps350;go_wp2_with (go_at_call 349; refine HSC.mono ?_; rintro e1 w1 ⟨rfl,hst1⟩; have hx1 := hst1.keep HX.out HNK.out; have x2 := hx1.c2; have hxl := hx1.lt);have HST1 := Hd (MSt.comp HST0.out HF0.out hst1);clear hst1 hx1 HSC x0;generalize (w.alloc (.cells #[.int .i64 3,.int .i64 0,.slice A n c] 332)) = wb at *;clear x2
 go_loopw [66] (fun iv wr => ∃ (j : Nat) (mvj : MS),iv = .int .i64 (j : Int) ∧ j ≤ n ∧ MSt B K mb mvj b0 e0 w wr ∧ kH φ (ts.drop j) s en mvj mv' ∧ s < mvj.length ∧ en < mvj.length) (fun iv _ => n - (intOf iv).toNat)
 case atStart => exact ⟨0,mv ++ [[]],rfl,Nat.zero_le _,HST1,HL,by simp; omega,by rw [HEN.out]; simp⟩
 case round =>
  clear HL;obtain ⟨j,mvj,rfl,hj,hst,hls,hsj,henj⟩ := hrel;have HSTJ := Hd hst;by_cases hlt : j < n
  · have hlt' : (j : Int) < (n : Int) := jj;have hjt : j < ts.length := by rw [← HN.out]; exact hlt
    have hp := HP.fr hst.2 HS.out;have hjL : j < L.length := by rw [hp.len]; exact hjt
    have e1 := List.getElem?_eq_getElem hjL;have et := List.getElem?_eq_getElem hjt;have hpa := hp.each j _ _ et e1;obtain ⟨g1,hA⟩ := jN hp.row jj;subst hA;have hr1 := eF hp.row hp.three e1;rw [List.drop_eq_getElem_cons hjt] at hls;have htm : ts[j] ∈ ts := List.getElem_mem _;have hdm : ∀ t ∈ ts.drop (j + 1),t ∈ ts := fun t ht => List.mem_of_mem_drop ht;obtain ⟨mv1,s1,hl1,hl2⟩ : ∃ mv1 s1,ki φ ts[j] (bz (mvj ++ [[]]) s mvj.length) mvj.length mv1 s1 ∧ kH φ (ts.drop (j + 1)) s en (bz mv1 s1 en) mv' := by
     cases hls with
     | cons _ _ _ _ _ mv1 _ s1 h h2 => exact ⟨mv1,s1,h,h2⟩
    have la : (bz (mvj ++ [[]]) s mvj.length).length = mvj.length + 1 := by rw [fp]; simp
    have za : msz (bz (mvj ++ [[]]) s mvj.length) = msz mvj + 2 := by unfold bz; rw [gx _ _ _ (by simp; omega),fm]
    obtain ⟨q1,q2,q3⟩ := HGG _ htm _ _ _ _ hl1 jj;have lb : (bz mv1 s1 en).length = mv1.length := fp _ _ _;have zb : msz (bz mv1 s1 en) = msz mv1 + 1 := gx _ _ _ q3;have hgr := kH.grows _ (fun t ht => HGG.out t (hdm t ht)) hl2 jj jj;have hmj := jK mvj;have hSi : ∀ j,(S j ∧ j < w.heap.size) → ¬ K1 K w wr j := fun j hj h2 => by
     rcases h2.1 with h3 | h3
     · exact HS.out j hj h3.1
     · have := hj.2;omega
    have HSI := Hd hSi;have hBr : B ≤ wr.heap.size := by have := hst.2.size; omega
    obtain ⟨k3,v3,A3,n3,c3,hl1',hv3⟩ := TBt.cells hpa;rw [hl1',Nat.mul_comm] at hr1;rw [hl1'] at hpa;have p0 : wr.cell? ⟨g1,j * 3,none⟩ = some (.int .i64 k3) := hr1 0 _ rfl;have p1 : wr.cell? ⟨g1,j * 3 + 1,none⟩ = some v3 := hr1 1 _ rfl;have p2 : wr.cell? ⟨g1,j * 3 + 2,none⟩ = some (.slice A3 n3 c3) := hr1 2 _ rfl;have hv3c : ∃ z : Int,v3 = .int .i64 z := by
     rcases hv3 with h | ⟨i,h⟩
     · exact ⟨_,h⟩
     · exact ⟨_,h⟩
    obtain ⟨z3,rfl⟩ := hv3c;have hfi := Fr.a1 wr (.cells #[.int .i64 k3,.int .i64 z3,.slice A3 n3 c3] 332);have HFI := Hd hfi;have HBX := Hd (Blk.new wr 332 #[.int .i64 k3,.int .i64 z3,.slice A3 n3 c3]);have HPA := Hd (TBt.fr hfi ii hpa);have hsi := al1 wr (.cells #[.int .i64 k3,.int .i64 z3,.slice A3 n3 c3] 332);have hnb : ¬ K1 K w wr wr.heap.size := fun h => by have := h.2; omega
    have HNB := Hd hnb;have HC1 := Hd (jM B (K1 K w wr) mb mvj b0 e0 _ (hst.mach hfi) (by rw [hsi]; omega) jj);have HIHJ := Hd (HIH _ htm);have HL1 := Hd hl1;have HL2 := Hd hl2;have HQ := Hd (show s < (bz mv1 s1 en).length ∧ en < (bz mv1 s1 en).length from ⟨by omega,by omega⟩);have HZ := Hd (show s < (mvj ++ [([] : List Mv)]).length ∧ msz (mvj ++ [[]]) ≤ 4000 ∧ mvj.length < (bz (mvj ++ [[]]) s mvj.length).length ∧ msz mv1 ≤ 2000 ∧ s1 < mv1.length from ⟨by simp; omega,by rw [fm]; omega,by omega,by omega,q3⟩);clear hp hjL e1 et hpa hr1 hls hdm hl1 hl2 q1 q2 q3 hgr hl1' hv3 hst hsj henj la za lb zb hSi hnb hfi;go_wp2_with (go_at_call 349; refine HC1.mono ?_; rintro e2 w2 ⟨rfl,hst2⟩);have HST2 := Hd hst2;have hs2 := hst2.2.size;rw [hsi] at hs2;have HC2 := Hd (ux B _ mb (mvj ++ [[]]) b0 e0 s mvj.length w2 (hst2.mach (Fr.refl _ _)) jj (by have := HZ.2.1; omega) HZ.1);clear hst2 HC1;generalize (wr.alloc (.cells #[.int .i64 k3,.int .i64 z3,.slice A3 n3 c3] 332)) = wi at *;go_wp2_with (go_at_call 367; refine HC2.mono ?_; rintro e3 w3 ⟨rfl,hst3⟩; have hst3' := MSt.comp HST2 (Fr.refl _ _) hst3; have hbx3 := hst3'.keep HBX.out HNB.out; have y0 := hbx3.c0; have y1 := hbx3.c1; have y2 := hbx3.c2);have HST3 := Hd hst3';have hs3 := hst3.2.size;have HC3 := Hd (HIHJ.out B _ mb _ _ mv1 s1 b0 e0 HL1.out HZ.2.2.2.1 HZ.2.2.1 (fun j => S j ∧ j < w.heap.size) w3 _ (hst3'.mach (Fr.refl _ _)) jj (fun j _ hj h2 => by
     rcases h2.1 with h3 | h3
     · exact HSI.out j hj h3.1
     · have := hj.2;have := HSTJ.2.size;omega) (HPA.fr hst3'.2 HSI))
    clear hst3 hst3' hbx3 HC2 p0 p1 p2;go_wp2_with (go_at_call 350; refine HC3.mono ?_; rintro e4 w4 ⟨rfl,hst4⟩);have hst4' := MSt.comp HST3 (Fr.refl _ _) hst4;have HST4 := Hd hst4';have hs4 := hst4.2.size;have HC4 := Hd (ux B _ mb mv1 b0 e0 s1 en w4 (hst4'.mach (Fr.refl _ _)) jj (by have := HZ.2.2.2.1; omega) HZ.2.2.2.2);clear hst4 hst4' HC3 y0 y1 y2;go_wp2_with (go_at_call 367; refine HC4.mono ?_; rintro e5 w5 ⟨rfl,hst5⟩);have HST5 := Hd (MSt.comp HSTJ.out HFI (MSt.comp HST4 (Fr.refl _ _) hst5));clear hst5 HC4;go_roundw
    case rel => exact ⟨j + 1,_,by go_num,hlt,HST5,HL2,HQ⟩
    case measure => simp only [intOf]; omega
  · obtain rfl : j = n := jj;have hfin : mvj = mv' := by
     rw [HN.out,List.drop_length] at hls;cases hls
     rfl
    subst hfin;clear hls hst;go_wp2_with fail;go_ret;exact ⟨rfl,HSTJ⟩
theorem D1 (φ : ByteArray → Int) (t : PT) (hw : iH t) : yp φ t := by
 induction hw with
 | leaf k i =>
  intro B K mb mv s mv' e b0 e0 h hsz hs S w l hM hB hS hT;cases hT
  cases h with
  | leaf _ _ _ _ hk =>
   refine yo B K mb mv b0 e0 k hk (φ i) s w hM hB ?_ hs;rw [gx _ _ _ (by simp; omega),fm] at hsz;omega
 | node k ts hl hp ih =>
  intro B K mb mv s mv' e b0 e0 h hsz hs S w l hM hB hS hT;cases hT with
  | node _ _ A c L hL hpp hr hS' =>
   have hP : bF φ w S A c ts L := ⟨hL,hpp,hr,hS'⟩;cases h with
   | seq _ _ _ _ _ h => exact BC φ ts hl ih (fun t ht => rj (hp t ht)) B K mb mv s mv' e b0 e0 h hsz hs S w A c L hM hB hS hP
   | alt _ _ _ _ h => exact BD φ ts hl ih (fun t ht => rj (hp t ht)) B K mb mv s mv' b0 e0 h hsz hs S w A c L hM hB hS hP
theorem gy : (prog.info? 332).map (·.size) = some 3 := kr
def fq : PT → Int
 | .leaf k _ => k
 | .node k _ => k
def cp : PT → List PT
 | .leaf _ _ => []
 | .node _ ts => ts
theorem dh (h : TBt (nF φ) nZ 332 w S t l) : ∃ (N : Int) (A : Option Addr) (c : Nat) (L : List (List Value)),l = [.int .i64 (fq t),.int .i64 N,.slice A (cp t).length c] ∧ bF φ w S A c (cp t) L ∧ ∀ k i,t = .leaf k i → N = φ i := by
 cases h with
 | leaf k i => exact ⟨φ i,none,0,[],rfl,⟨rfl,fun i t l h _ => by simp [cp] at h,World.ownsRow_nil _ _ _ _,fun g hg => by cases hg⟩,fun k i h => by injection h with _ h; rw [h]⟩
 | node k ts A c L hL hp hr hS => exact ⟨0,A,c,L,rfl,⟨hL,hp,hr,hS⟩,fun k i h => by cases h⟩
theorem D2 (F : Nat) (C : Array Value) (hen : ∀ args w,(callFunc F args).run prog w = .ok (.enter F args) w) (φ : ByteArray → Int) (S : Nat → Prop) (A : Option Addr) (c : Nat) (ts : List PT) (L : List (List Value)) (w : World) (h : bF φ w S A c ts L) (hlen : ts.length ≤ 5000)
    (HC : ∀ (w1 : World) (t : PT) (l : List Value),t ∈ ts → Fr (fun _ => False) w w1 → TBt (nF φ) nZ 332 w1 S t l → Calls prog F (#[.agg l.toArray] ++ C) w1 (IsB false w1)) :
    Calls prog 376 #[.slice A ts.length c,.func (.func F) #[] C] w fun e w' => e = .returned (.int .i64 (-1)) ∧ Fr (fun _ => False) w w' := by
 have HP := Hd h;have HCC := Hd HC;have hcap := kS h.row;obtain ⟨n,hn⟩ : ∃ n,n = ts.length := ⟨_,rfl⟩;rw [← hn] at hlen hcap ⊢;have HN := Hd hn;clear h HC hn;go_enter func376,ntmps376;go_wp2_with fail
 go_loopg [8] (n) (fun gk a wr => ∃ j : Nat,a = .int .i64 (j : Int) ∧ n ≤ j + gk ∧ j ≤ n ∧ Fr (fun _ => False) w wr)
 case atStart => exact ⟨0,rfl,by omega,by omega,Fr.refl _ _⟩
 case round =>
  obtain ⟨j,rfl,hgk,hj,hf⟩ := hrel;have HF := Hd hf;clear hf;by_cases hjn : j < n
  · have hp := HP.fr HF.out ii;have hjt : j < ts.length := by rw [← HN.out]; exact hjn
    have hjL : j < L.length := by rw [hp.len]; exact hjt
    have h1 := List.getElem?_eq_getElem hjL;have h2 := List.getElem?_eq_getElem hjt;have hpa := hp.each j _ _ h2 h1;obtain ⟨g,hA⟩ := jN hp.row jj;subst hA;have HRA := eF hp.row hp.three h1;have HCL := Hd (HCC.out wr.drew ts[j] L[j] (List.getElem_mem _) HF.drew (hpa.fr (Fr.refl (fun _ => False) _).drew ii));have HCL2 := Hd (HCC.out wr ts[j] L[j] (List.getElem_mem _) HF.out hpa);obtain ⟨N,A2,c2,L2,hl,hpx,hpy⟩ := dh hpa;clear hpx hpy;rw [hl,Nat.mul_comm] at HRA;rw [hl] at HCL HCL2;generalize fq ts[j] = k3 at *;generalize (cp ts[j]).length = n3 at *;have p0 : wr.cell? ⟨g,j * 3,none⟩ = some (.int .i64 k3) := HRA 0 _ rfl;have p1 : wr.cell? ⟨g,j * 3 + 1,none⟩ = some (.int .i64 N) := HRA 1 _ rfl;have p2 : wr.cell? ⟨g,j * 3 + 2,none⟩ = some (.slice A2 n3 c2) := HRA 2 _ rfl;clear h1 h2 hpa hp hl hjL hjt HRA;have hj0 : (0 : Int) ≤ (j : Int) := jj;have hjn2 : (j : Int) < (n : Int) := jj;go_wp2_with fail
    first | refine HCL.mono ?_ | refine HCL2.mono ?_
    rintro e w2 ⟨rfl,hf2⟩;have HF2 := Hd (show Fr (fun _ => False) w w2 from HF.trans' (by first | exact hf2 | exact Fr.trans' (Fr.refl _ _).drew hf2));clear hf2;go_wp2_with fail
    go_roundg (n - (j + 1))
    case measure => omega
    case rel => exact ⟨j + 1,rfl,by omega,by omega,HF2⟩
  · obtain rfl : j = n := jj;go_wp2_with fail;go_ret;exact ⟨rfl,HF⟩
theorem yq (F : Nat) (C : Array Value) (hen : ∀ args w,(callFunc F args).run prog w = .ok (.enter F args) w) (φ : ByteArray → Int) (S : Nat → Prop) (A : Option Addr) (c : Nat) (ts : List PT) (L : List (List Value)) (w : World) (h : bF φ w S A c ts L) (hlen : ts.length ≤ 5000)
    (HC : ∀ (w1 : World) (t : PT) (l : List Value),t ∈ ts → Fr (fun _ => False) w w1 → TBt (nF φ) nZ 332 w1 S t l → Calls prog F (#[.agg l.toArray] ++ C) w1 (IsB false w1)) :
    Calls prog 372 #[.slice A ts.length c,.func (.func F) #[] C] w (IsB false w) := by
 have HI := Hd (D2 F C hen φ S A c ts L w h hlen HC);generalize ts.length = n at *;clear h HC;go_enter func372,ntmps372;go_wp2_with fail;refine HI.mono ?_;rintro e w1 ⟨rfl,hf1⟩;go_wp2_with fail;go_ret;exact IsB.mk hf1
mutual
inductive dy (φ : ByteArray → Int) : PT → Nat → Nat → Prop
 | leaf (k : Int) (i : ByteArray) (d : Nat) (hk : k = 0 ∨ k = 1) (hn : 0 ≤ φ i) : dy φ (.leaf k i) (d + 1) 1
 | node (k : Int) (ts : List PT) (d n : Nat) (hk : k = 2 ∨ k = 3) (h0 : 0 < ts.length) (hl : ts.length ≤ 5000) (h : jO φ ts d n) : dy φ (.node k ts) (d + 1) (n + 1)
inductive jO (φ : ByteArray → Int) : List PT → Nat → Nat → Prop
 | nil (d : Nat) : jO φ [] d 0
 | cons (t : PT) (ts : List PT) (d a b : Nat) (h : dy φ t d a) (h2 : jO φ ts d b) : jO φ (t :: ts) d (a + b)
end
theorem jO.each : ∀ {ts : List PT} {d n : Nat},jO φ ts d n → ∀ t ∈ ts,∃ a,a ≤ n ∧ dy φ t d a
 | [],_,_,_,t,ht => by cases ht
 | t0 :: ts,d,_,h,t,ht => by
  cases h with
  | cons _ _ _ a b h h2 =>
   rcases List.mem_cons.1 ht with rfl | h3
   · exact ⟨a,by omega,h⟩
   · obtain ⟨c,hc,h4⟩ := h2.each t h3;exact ⟨c,by omega,h4⟩
theorem dy.wide : ∀ (d : Nat) {t : PT} {n : Nat},dy φ t d n → iH t
 | 0,_,_,h => by cases h
 | d + 1,_,_,h => by
  cases h with
  | leaf k i _ _ _ => exact .leaf k i
  | node k ts _ n hk h0 hl h => exact .node k ts hl (fun t ht => by
   obtain ⟨a,_,h2⟩ := h.each t ht;exact dy.wide d h2)
theorem dy.parts {d : Nat} (h : dy φ t (d + 1) n) : ∃ m,n = m + 1 ∧ jO φ (cp t) d m ∧ (cp t).length ≤ 5000 := by
 cases h with
 | leaf k i _ _ _ => exact ⟨0,rfl,.nil _,Nat.zero_le _⟩
 | node k ts _ n hk h0 hl h => exact ⟨n,rfl,h,hl⟩
def CC (φ : ByteArray → Int) (d : Nat) : Prop := ∀ (t : PT) (n : Nat),dy φ t d n → ∀ left : Nat,d ≤ left → left ≤ 40 → ∀ (S : Nat → Prop) (w : World) (l : List Value),TBt (nF φ) nZ 332 w S t l → Calls prog 363 #[.agg l.toArray,.int .i64 (left : Int)] w (IsB true w)
theorem yr : ∀ args w,(callFunc 373 args).run prog w = .ok (.enter 373 args) w := fun args w => by kernel_rfl
theorem yt : ∀ args w,(callFunc 374 args).run prog w = .ok (.enter 374 args) w := fun args w => by kernel_rfl
theorem BE (φ : ByteArray → Int) (d : Nat) (HD : CC φ d) (t : PT) (n : Nat) (hf : dy φ t d n) (left : Nat) (hl : d ≤ left) (hl4 : left < 40) (S : Nat → Prop) (w : World) (l : List Value) (h : TBt (nF φ) nZ 332 w S t l) (lb : Nat) (hlb : Blk w lb 3 #[.int .i64 ((left : Int) + 1)]) :
    Calls prog 373 #[.agg l.toArray,.pointer (some ⟨lb,0,none⟩)] w (IsB false w) := by
 obtain ⟨N,A,c,L,rfl,hp,hn⟩ := dh h;clear hp hn;generalize fq t = k at *;generalize (cp t).length = m at *;have hf0 := Fr.a1 w (.cells #[.int .i64 k,.int .i64 N,.slice A m c] 332);have hx := Blk.new w 332 #[.int .i64 k,.int .i64 N,.slice A m c];have x0 := hx.c0;have x1 := hx.c1;have x2 := hx.c2;have l0 := (hlb.fr hf0 id).c0;have HC := Hd (HD t n hf left hl jj S _ _ (h.fr hf0 ii));have HF := Hd hf0;clear h hlb hf0 hf hx HD;go_enter func373,ntmps373;go_wp2_with fail;refine HC.mono ?_;rintro e w2 ⟨rfl,hf2⟩;have HF2 := Hd (HF.trans' hf2);clear hf2 x0 x1 x2 l0;go_wp2_with fail;go_ret;exact IsB.mk HF2.out
theorem uy (φ : ByteArray → Int) : ∀ d : Nat,CC φ d
 | 0 => fun t n h => by cases h
 | d + 1 => fun t n hF left hd hl S w l h => by
  have IH := uy φ d;obtain ⟨m,rfl,hpl,hp5⟩ := hF.parts;obtain ⟨N,A,c,L,rfl,hp,hn⟩ := dh h;have hf := Fr.a2 w (.cells #[.int .i64 (fq t),.int .i64 N,.slice A (cp t).length c] 332) (.cells #[.int .i64 (left : Int)] 3);have hz := al1 w (.cells #[.int .i64 (fq t),.int .i64 N,.slice A (cp t).length c] 332);have hlb := Blk.new (w.alloc (.cells #[.int .i64 (fq t),.int .i64 N,.slice A (cp t).length c] 332)) 3 #[.int .i64 (left : Int)];rw [hz] at hlb;obtain ⟨lf,rfl⟩ : ∃ lf,left = lf + 1 := ⟨left - 1,by omega⟩;have e1 : ((lf + 1 : Nat) : Int) = (lf : Int) + 1 := jj;rw [e1] at hlb hf ⊢;have HC := Hd (yq 373 #[.pointer (some ⟨w.heap.size + 1,0,none⟩)] yr φ S A c (cp t) L _ (hp.fr hf ii) hp5 (fun w1 t1 l1 ht hfw hpa => by
   obtain ⟨a,_,hfa⟩ := hpl.each t1 ht;exact BE φ d IH t1 a hfa lf jj jj S w1 l1 hpa (w.heap.size + 1) (hlb.fr hfw id)))
  have HF := Hd hf;generalize fq t = k at *;generalize (cp t).length = q at *;have c2 := (Blk.new w 332 #[.int .i64 k,.int .i64 N,.slice A q c]).c2;have hl0 : (0 : Int) ≤ (lf : Int) := jj;have hpos : (0 : Int) < (lf : Int) + 1 := jj;clear hf hlb hp hn hpl IH e1 h hF hd hl hz;go_enter func363,ntmps363;go_wp2_with fail;refine HC.mono ?_;rintro e w1 ⟨rfl,hf1⟩;go_wp2_with fail;go_ret;exact IsB.mk (HF.trans' hf1)
def Fe (φ : ByteArray → Int) (d : Nat) : Prop := ∀ (t : PT) (n : Nat),dy φ t d n → n ≤ 200 → ∀ (S : Nat → Prop) (w : World) (l : List Value),TBt (nF φ) nZ 332 w S t l → Calls prog 364 #[.agg l.toArray] w fun e w' => e = .returned (.int .i64 (n : Int)) ∧ Fr (fun _ => False) w w'
theorem uz (φ : ByteArray → Int) : ∀ d : Nat,Fe φ d
 | 0 => fun t n h => by cases h
 | d + 1 => fun t n hF hn2 S w l h => by
  have IH := Hd (uz φ d);obtain ⟨m,rfl,hpl,hp5⟩ := hF.parts;obtain ⟨N,A,c,L,rfl,hp,hn⟩ := dh h;clear hn hF h;have hcap := kS hp.row;obtain ⟨k,hk⟩ : ∃ k,k = fq t := ⟨_,rfl⟩;obtain ⟨ts,hts⟩ : ∃ ts,ts = cp t := ⟨_,rfl⟩;rw [← hk];rw [← hts] at hp hpl hp5 hcap ⊢;clear hk hts;obtain ⟨q,hq⟩ : ∃ q,q = ts.length := ⟨_,rfl⟩;rw [← hq] at hp5 hcap ⊢;have HQ := Hd hq;clear hq;have hf0 := Fr.a1 w (.cells #[.int .i64 k,.int .i64 N,.slice A q c] 332);have x2 := (Blk.new w 332 #[.int .i64 k,.int .i64 N,.slice A q c]).c2;have HP := Hd hp;have HPL := Hd hpl;have HF0 := Hd hf0;clear hp hpl hf0;go_enter func364,ntmps364;go_wp2_with fail
  go_loopw [3,9] (fun sv iv wr => ∃ (j a b : Nat),sv = .int .i64 ((a + 1 : Nat) : Int) ∧ iv = .int .i64 (j : Int) ∧ j ≤ q ∧ jO φ (ts.drop j) d b ∧ a + b = m ∧ Fr (fun _ => False) w wr) (fun _ iv _ => q - (intOf iv).toNat)
  case atStart => exact ⟨0,0,m,rfl,rfl,Nat.zero_le _,HPL,by omega,HF0⟩
  case round =>
   obtain ⟨j,a,b,rfl,rfl,hj,hfl,hab,hf⟩ := hrel;have HF := Hd hf;by_cases hjn : j < q
   · have hp := HP.fr hf ii;have hjt : j < ts.length := by rw [← HQ.out]; exact hjn
     have hjL : j < L.length := by rw [hp.len]; exact hjt
     have h1 := List.getElem?_eq_getElem hjL;have h2 := List.getElem?_eq_getElem hjt;have hpa := hp.each j _ _ h2 h1;obtain ⟨g,hA⟩ := jN hp.row jj;subst hA;have HRA := eF hp.row hp.three h1;rw [List.drop_eq_getElem_cons hjt] at hfl;obtain ⟨a1,b1,hab1,hft,hfl2⟩ : ∃ a1 b1,b = a1 + b1 ∧ dy φ ts[j] d a1 ∧ jO φ (ts.drop (j + 1)) d b1 := by
      cases hfl with
      | cons _ _ _ a1 b1 h h2 => exact ⟨a1,b1,rfl,h,h2⟩
     obtain ⟨N3,A3,c3,L3,hl3,hpx,hpy⟩ := dh hpa;clear hpx hpy;rw [hl3,Nat.mul_comm] at HRA;rw [hl3] at hpa;have HIJ := Hd (fun w1 l1 (h : TBt (nF φ) nZ 332 w1 S ts[j] l1) => IH.out ts[j] a1 hft jj S w1 l1 h);generalize fq ts[j] = k3 at *;generalize (cp ts[j]).length = n3 at *;have p0 : wr.cell? ⟨g,j * 3,none⟩ = some (.int .i64 k3) := HRA 0 _ rfl;have p1 : wr.cell? ⟨g,j * 3 + 1,none⟩ = some (.int .i64 N3) := HRA 1 _ rfl;have p2 : wr.cell? ⟨g,j * 3 + 2,none⟩ = some (.slice A3 n3 c3) := HRA 2 _ rfl;have hfi := Fr.a1 wr (.cells #[.int .i64 k3,.int .i64 N3,.slice A3 n3 c3] 332);have HC := Hd (HIJ _ _ (hpa.fr hfi ii));have HFI := Hd (HF.andF hfi);have HFL2 := Hd hfl2;have hjn2 : (j : Int) < (q : Int) := jj;have hsum : IntKind.i64.wrap (((a + 1 : Nat) : Int) + (a1 : Int)) = ((a + a1 + 1 : Nat) : Int) := by rw [IntWalk.i64_in _ jj]; omega
     clear HIJ;clear hp hjL h1 h2 hpa HRA hfl hft hfl2 hl3 hfi hf x2 hjt;go_wp2_with fail;refine HC.mono ?_;rintro e w2 ⟨rfl,hf2⟩;have HF2 := Hd (HFI.trans' hf2);clear hf2;go_wp2_with fail;go_roundw
     case rel => exact ⟨j + 1,a + a1,b1,by first | rfl | (congr 1; omega) | (simp; omega),by go_num,hjn,HFL2,by omega,HF2⟩
     case measure => simp only [intOf]; omega
   · obtain rfl : j = q := jj;have hb0 : b = 0 := by
      rw [HQ.out,List.drop_length] at hfl;cases hfl
      rfl
     subst hb0;obtain rfl : a = m := jj;clear hfl hf;go_wp2_with fail;go_ret;exact ⟨rfl,HF⟩
section
variable {w : World} {ops : Array Oper} {rest : List Oper} {op : Oper} {a : Act} {Q : Exit → Act → World → Prop}
theorem D4 (v : Value) (h : v.oneCell' = true) : aY 1 #[v] := ⟨rfl,all_oneCell_toArray (cs := [v]) (fun u hu => by rw [List.mem_singleton.1 hu]; exact h)⟩
theorem mc (ty : TypeId) (p : Addr) (v : Value) : storeVar ty p v = storeVar ty p (.agg v.cells) := rfl
theorem fs (hgd : op.guard = none) (ty : TypeId) (x y : Operand) (ho : op.op = .store ty x y) (b o : Nat) (v : Value) (hx : a.eval x = .pointer (some ⟨b,o,none⟩)) (hy : a.eval y = v) (hc : v.cells = #[v]) (t : TypeId) (cs : Array Value) (hb : Blk w b t cs) (hsz : o + 1 ≤ cs.size) (hi : (prog.info? ty).map (·.size) = some 1) (h1 : v.oneCell' = true)
    (h : Hid (∀ w',Blk w' b t (cs.setIfInBounds o v) → Fr (fun j => j = b) w w' → wpList prog ops Q rest (a.put op.dst undef) w')) : wpList prog ops Q (op :: rest) a w :=
 wpList_plain hgd fun _ hK => by
  have hr := run_storeVar_mid (P := prog) w b o ty #[v] (hb.therePart hsz) hi (D4 v h1).one;have hs := h.out _ (hb.set_ o v) ((Fr.refl (fun j => j = b) w).setCell ⟨b,o,none⟩ (fun _ => rfl) v);unfold Oper.wp execOp;simp only [ho,hx,hy,Instr.storeAt,Instr.sureAddr,Sem.run_bind,Sem.run_pure,Result.andThen_ok];rw [mc,hc,hr];exact hK _ _ hs
end
abbrev BF (eb : Nat) : Value := .func (.func 237) #[.pointer (some ⟨eb,0,none⟩)] #[]
def Ff (φ : ByteArray → Int) (eb : Nat) (Q : ByteArray → Prop) (KW : World → Prop) : Prop := ∀ i,Q i → ∀ W,KW W → Calls prog 237 #[.pointer (some ⟨eb,0,none⟩),.string i] W fun e w' => e = .returned (.int .i64 (φ i)) ∧ Fr (fun _ => False) W w'
inductive gK (Q : ByteArray → Prop) : PT → Prop
 | leaf (k : Int) (i : ByteArray) (h : Q i) : gK Q (.leaf k i)
 | node (k : Int) (ts : List PT) (h : ∀ t,t ∈ ts → gK Q t) : gK Q (.node k ts)
theorem BG : (prog.info? 332).map (fun i => (i.zero,i.size,i.bytes)) = some (some (.agg #[.int .i64 0,.int .i64 0,.slice none 0 0]),3,40) := kr
theorem mf (k n : Int) (A : Option Addr) (m c : Nat) : aY 3 #[.int .i64 k,.int .i64 n,.slice A m c] := ⟨rfl,all_oneCell_toArray (cs := [.int .i64 k,.int .i64 n,.slice A m c]) (by
 intro v hv;simp only [List.mem_cons,List.not_mem_nil,or_false] at hv;rcases hv with rfl | rfl | rfl <;> rfl)⟩
def oa (φ : ByteArray → Int) (t : PT) (w : World) (e : Ending) (w' : World) : Prop :=
 ∃ (k N : Int) (A : Option Addr) (n c : Nat),e = .returned (.agg #[.int .i64 k,.int .i64 N,.slice A n c]) ∧ NAt φ w' w.heap.size t [.int .i64 k,.int .i64 N,.slice A n c] ∧ Fr (fun _ => False) w w'
theorem rm (φ : ByteArray → Int) (eb : Nat) (Q : ByteArray → Prop) (KW : World → Prop) (hKW : ∀ W W',KW W → Fr (fun _ => False) W W' → KW W') (HF : Ff φ eb Q KW) (k : Int) (hk : k = 0 ∨ k = 1) (i : ByteArray) (hQ : Q i) (w : World) (hw : KW w) :
    Calls prog 236 #[.agg #[.int .i64 k,.string i,.slice none 0 0],BF eb] w (oa φ (.leaf k i) w) := by
 have hf0 := Fr.a2 w (.cells #[.int .i64 k,.string i,.slice none 0 0] 174) (.cells #[.int .i64 0,.int .i64 0,.slice none 0 0] 332);have hz := al1 w (.cells #[.int .i64 k,.string i,.slice none 0 0] 174);have hy := Blk.new (w.alloc (.cells #[.int .i64 k,.string i,.slice none 0 0] 174)) 332 #[.int .i64 0,.int .i64 0,.slice none 0 0];rw [hz] at hy;have hx := (Blk.new w 174 #[.int .i64 k,.string i,.slice none 0 0]).alloc (.cells #[.int .i64 0,.int .i64 0,.slice none 0 0] 332);have HX := Hd hx;have HY := Hd hy;have HFr := Hd hf0.up;have HFd := Hd hf0;have c0 := hx.c0;have hz2 := k7 w (.cells #[.int .i64 k,.string i,.slice none 0 0] 174) (.cells #[.int .i64 0,.int .i64 0,.slice none 0 0] 332);have HFF := Hd (fun W (hW : Fr (fun _ => False) w W) => HF i hQ W (hKW _ _ hw hW));have HK := Hd hk;clear hf0 hx hy HF hk hQ hw hKW;have c1 := HX.c1;have HO := Hd (show Blk (((w.alloc (.cells #[.int .i64 k,.string i,.slice none 0 0] 174)).alloc (.cells #[.int .i64 0,.int .i64 0,.slice none 0 0] 332)).alloc (.cells #[.int .i64 k,.int .i64 0,.slice none 0 0] 332)) (w.heap.size + 2) 332 #[.int .i64 k,.int .i64 0,.slice none 0 0] by have h := Blk.new ((w.alloc (.cells #[.int .i64 k,.string i,.slice none 0 0] 174)).alloc (.cells #[.int .i64 0,.int .i64 0,.slice none 0 0] 332)) 332 #[.int .i64 k,.int .i64 0,.slice none 0 0]; rw [hz2] at h; exact h);have hfa : Fr (fun _ => False) ((w.alloc (.cells #[.int .i64 k,.string i,.slice none 0 0] 174)).alloc (.cells #[.int .i64 0,.int .i64 0,.slice none 0 0] 332)) (((w.alloc (.cells #[.int .i64 k,.string i,.slice none 0 0] 174)).alloc (.cells #[.int .i64 0,.int .i64 0,.slice none 0 0] 332)).alloc (.cells #[.int .i64 k,.int .i64 0,.slice none 0 0] 332)) := (Fr.refl _ _).alloc _;have HX3 := Hd (HX.fr hfa id);have HY3 := Hd (HY.fr hfa id);have HF3 := Hd (HFr.andF hfa);have c3 := HX3.c1;have HFe := Hd (HFd.trans' hfa);clear hfa HX HY HFr HFd;rcases HK.out with rfl | rfl
 · go_enter func236,ntmps236;go_wp2_with fail;refine (HFF _ HFe).mono ?_;rintro e w3 ⟨rfl,hf3⟩;have HO := Hd (HO.fr hf3 id);have HX3 := Hd (HX3.fr hf3 id);have HY3 := Hd (HY3.fr hf3 id);have HF3 := Hd (HF3.andF hf3);clear hf3;go_wp2_with ((with_reducible change wpList _ _ _ (Oper.mk _ (.store 3 _ _) _ _ _ _ :: _) _ _); refine fs rfl 3 _ _ rfl (w.heap.size + 2) 1 (.int .i64 (φ i)) rfl rfl rfl 332 _ HO (by exact Nat.le_of_ble_eq_true rfl) kr rfl ?_);refine Hd ?_;rintro w4 ho4 hf4;have HO4 := Hd (show Blk w4 (w.heap.size + 2) 332 #[.int .i64 0,.int .i64 (φ i),.slice none 0 0] from ho4);have hx4 := HX3.oth hf4 jj;have c4 := hx4.c2;have HY4 := Hd (HY3.oth hf4 jj);have HF4 := Hd (HF3.andX hf4 jj);clear ho4 hf4 hx4 c3;go_wp2_with fail
   go_loopg [27] (0) (fun gk a wr => a = .int .i64 0 ∧ w4 = wr)
   case atStart => exact ⟨rfl,rfl⟩
   case round =>
    obtain ⟨rfl,rfl⟩ := hrel;go_wp2_with (first | ((with_reducible change wpList _ _ _ (Oper.mk _ (.load 332 _) _ _ _ _ :: _) _ _); refine aD rfl 332 _ rfl _ rfl 332 #[.int .i64 0,.int .i64 (φ i),.slice none 0 0] HO4 _ underlying332 rfl gy ?_) | ((with_reducible change wpList _ _ _ (Oper.mk _ (.store 332 _ _) _ _ _ _ :: _) _ _); refine ao rfl 332 _ _ rfl _ #[.int .i64 0,.int .i64 (φ i),.slice none 0 0] rfl rfl 332 _ HY4 (by rfl) (by exact gy) (mf _ _ _ _ _).one ?_));refine Hd ?_;rintro wz hbz hfz;have HFZ := Hd ((HF4.andX hfz jj).shut (Nat.le_refl _));go_wp2_with fail;exact bodyPost_ret (v := .agg #[.int .i64 0,.int .i64 (φ i),.slice none 0 0]) (results_cell_row rfl _ _ (w.heap.size + 1) 332 _ (0,0) _ rfl hbz underlying332 rfl gy) rfl ⟨_,_,_,_,_,rfl,.leaf _ _,HFZ⟩
 · go_enter func236,ntmps236;go_wp2_with fail;refine (HFF _ HFe).mono ?_;rintro e w3 ⟨rfl,hf3⟩;have HO := Hd (HO.fr hf3 id);have HX3 := Hd (HX3.fr hf3 id);have HY3 := Hd (HY3.fr hf3 id);have HF3 := Hd (HF3.andF hf3);clear hf3;go_wp2_with ((with_reducible change wpList _ _ _ (Oper.mk _ (.store 3 _ _) _ _ _ _ :: _) _ _); refine fs rfl 3 _ _ rfl (w.heap.size + 2) 1 (.int .i64 (φ i)) rfl rfl rfl 332 _ HO (by exact Nat.le_of_ble_eq_true rfl) kr rfl ?_);refine Hd ?_;rintro w4 ho4 hf4;have HO4 := Hd (show Blk w4 (w.heap.size + 2) 332 #[.int .i64 1,.int .i64 (φ i),.slice none 0 0] from ho4);have hx4 := HX3.oth hf4 jj;have c4 := hx4.c2;have HY4 := Hd (HY3.oth hf4 jj);have HF4 := Hd (HF3.andX hf4 jj);clear ho4 hf4 hx4 c3;go_wp2_with fail
   go_loopg [27] (0) (fun gk a wr => a = .int .i64 0 ∧ w4 = wr)
   case atStart => exact ⟨rfl,rfl⟩
   case round =>
    obtain ⟨rfl,rfl⟩ := hrel;go_wp2_with (first | ((with_reducible change wpList _ _ _ (Oper.mk _ (.load 332 _) _ _ _ _ :: _) _ _); refine aD rfl 332 _ rfl _ rfl 332 #[.int .i64 1,.int .i64 (φ i),.slice none 0 0] HO4 _ underlying332 rfl gy ?_) | ((with_reducible change wpList _ _ _ (Oper.mk _ (.store 332 _ _) _ _ _ _ :: _) _ _); refine ao rfl 332 _ _ rfl _ #[.int .i64 1,.int .i64 (φ i),.slice none 0 0] rfl rfl 332 _ HY4 (by rfl) (by exact gy) (mf _ _ _ _ _).one ?_));refine Hd ?_;rintro wz hbz hfz;have HFZ := Hd ((HF4.andX hfz jj).shut (Nat.le_refl _));go_wp2_with fail;exact bodyPost_ret (v := .agg #[.int .i64 1,.int .i64 (φ i),.slice none 0 0]) (results_cell_row rfl _ _ (w.heap.size + 1) 332 _ (0,0) _ rfl hbz underlying332 rfl gy) rfl ⟨_,_,_,_,_,rfl,.leaf _ _,HFZ⟩
theorem rp (φ : ByteArray → Int) (eb : Nat) (KW : World → Prop) (hKW : ∀ W W',KW W → Fr (fun _ => False) W W' → KW W') (k : Int) (hk : 2 ≤ k) (hk6 : k ≤ 6) (ts : List PT) (hlen : ts.length ≤ 5000) (w : World) (hw : KW w) (B : Nat) (A : Option Addr) (c : Nat) (L : List (List Value)) (h : gv w B A c ts L)
    (HN : ∀ (w1 : World) (t : PT) (l : List Value),KW w1 → t ∈ ts → PAt 174 w1 B t l → Calls prog 236 #[.agg l.toArray,BF eb] w1 (oa φ t w1)) :
    Calls prog 236 #[.agg #[.int .i64 k,.string ⟨#[]⟩,.slice A ts.length c],BF eb] w (oa φ (.node k ts) w) := by
 obtain ⟨i76,hi76,hz760,hz761,hz762⟩ := info_parts BG;have hf0 := Fr.a3 w (.cells #[.int .i64 k,.string ⟨#[]⟩,.slice A ts.length c] 174) (.cells #[.int .i64 0,.int .i64 0,.slice none 0 0] 332) (.cells #[.int .i64 k,.int .i64 0,.slice none 0 0] 332);have hz := al1 w (.cells #[.int .i64 k,.string ⟨#[]⟩,.slice A ts.length c] 174);have hz2 := k7 w (.cells #[.int .i64 k,.string ⟨#[]⟩,.slice A ts.length c] 174) (.cells #[.int .i64 0,.int .i64 0,.slice none 0 0] 332);have hz3 := CH w (.cells #[.int .i64 k,.string ⟨#[]⟩,.slice A ts.length c] 174) (.cells #[.int .i64 0,.int .i64 0,.slice none 0 0] 332) (.cells #[.int .i64 k,.int .i64 0,.slice none 0 0] 332);have hy := Blk.new (w.alloc (.cells #[.int .i64 k,.string ⟨#[]⟩,.slice A ts.length c] 174)) 332 #[.int .i64 0,.int .i64 0,.slice none 0 0];rw [hz] at hy;have ho := Blk.new ((w.alloc (.cells #[.int .i64 k,.string ⟨#[]⟩,.slice A ts.length c] 174)).alloc (.cells #[.int .i64 0,.int .i64 0,.slice none 0 0] 332)) 332 #[.int .i64 k,.int .i64 0,.slice none 0 0];rw [hz2] at ho;have hx := ((Blk.new w 174 #[.int .i64 k,.string ⟨#[]⟩,.slice A ts.length c]).alloc (.cells #[.int .i64 0,.int .i64 0,.slice none 0 0] 332)).alloc (.cells #[.int .i64 k,.int .i64 0,.slice none 0 0] 332);have HX := Hd hx;have HY := Hd (hy.alloc (.cells #[.int .i64 k,.int .i64 0,.slice none 0 0] 332));have HO := Hd ho;have HFr := Hd hf0.up;have HPA := Hd h;have HNN := Hd HN;have HKW := Hd hKW;have HW := Hd hw;have hb0 : (k == 0) = false := by simp; omega
 have hb1 : (k == 1) = false := by simp; omega
 have c2 := hx.c2;have hcap : (ts.length : Int) ≤ (c : Int) := by
  rcases h.2.2.2 with ⟨h0,h1⟩ | ⟨gg,cap,cur,h0,_,_,hc,_⟩
  · omega
  · injection h0 with _ _ h0;omega
 obtain ⟨n,hn⟩ : ∃ n,n = ts.length := ⟨_,rfl⟩;rw [← hn] at hlen hcap HX HY HO HFr c2 hz3 ⊢;have HN' := Hd hn;clear hf0 hx hy ho h HN hk hz hz2 hn hk6 hKW hw;go_enter func236,ntmps236;go_wp2_with fail;generalize (((w.alloc (.cells #[.int .i64 k,.string ⟨#[]⟩,.slice A n c] 174)).alloc (.cells #[.int .i64 0,.int .i64 0,.slice none 0 0] 332)).alloc (.cells #[.int .i64 k,.int .i64 0,.slice none 0 0] 332)) = w3 at *
 go_loopg [27] (n) (fun gk a wr => ∃ (j : Nat) (A3 : Option Addr) (c3 : Nat) (done : List PT) (L3 : List (List Value)),a = .int .i64 (j : Int) ∧ n ≤ j + gk ∧ j ≤ n ∧ done = ts.take j ∧ cW (nF φ) nZ 332 wr (w.heap.size + 3) (.slice A3 j c3) done L3 ∧ Blk wr (w.heap.size + 2) 332 #[.int .i64 k,.int .i64 0,.slice A3 j c3] ∧ Blk wr (w.heap.size + 1) 332 #[.int .i64 0,.int .i64 0,.slice none 0 0] ∧ Fr (fun j => w.heap.size ≤ j) w wr)
 case atStart => exact ⟨0,none,0,[],[],rfl,by omega,by omega,by simp,cW.nil _ _,HO,HY,HFr⟩
 case round =>
  clear HX HY HO HFr c2;obtain ⟨j,A3,c3,done,L3,rfl,hgk,hj,hdone,htp,hob,hrb,hfr⟩ := hrel;have HTP := Hd htp;have HOB := Hd hob;have HRB := Hd hrb;have HFR := Hd hfr;have HD := Hd hdone;have hol := hob.lt;clear htp hob hrb hfr hdone;by_cases hjn : j < n
  · have hp := HPA.frF (HFR.shut (Nat.le_refl _));have hjt : j < ts.length := by rw [← HN'.out]; exact hjn
    have hjL : j < L.length := by rw [hp.1]; exact hjt
    have h1 := List.getElem?_eq_getElem hjL;have h2 := List.getElem?_eq_getElem hjt;have hpa := hp.2.1 j _ _ h2 h1;obtain ⟨g,hA⟩ : ∃ g,A = some ⟨g,0,none⟩ := by
     rcases hp.2.2.2 with ⟨h0,h1⟩ | ⟨gg,cap,cur,h0,_⟩
     · omega
     · injection h0 with h0 _ _;exact ⟨gg,h0⟩
    subst hA;have HRA := Hd (eF hp.2.2 hp.three h1);obtain ⟨k2,i2,A2,n2,c2,hl⟩ := hpa.cells;rw [hl,Nat.mul_comm] at HRA;rw [hl] at hpa;have HC := Hd (fun w1 (hf : Fr (fun _ => False) wr w1) => HNN.out w1 ts[j] _ (HKW _ _ HW ((HFR.shut (Nat.le_refl _)).trans' hf)) (List.getElem_mem _) (hpa.frF hf));have HDN := Hd (show done ++ [ts[j]] = ts.take (j + 1) by rw [HD.out,List.take_succ_eq_append_getElem hjt]);have HDL := Hd (show done.length = j by rw [HD.out,List.length_take]; omega);generalize ts[j] = tj at *;clear h1 h2 hpa hp hl hjL hjt HNN HPA;have hj0 : (0 : Int) ≤ (j : Int) := jj;have hjn2 : (j : Int) < (n : Int) := jj;have hf4 := Fr.a1 wr (.cells #[.int .i64 k2,.string i2,.slice A2 n2 c2] 174);have hx4 := Blk.new wr 174 #[.int .i64 k2,.string i2,.slice A2 n2 c2];have p0 := hx4.c0;have p1 := hx4.c1;have p2 := hx4.c2;have o4 := (HOB.fr hf4 id).c2;have HOB4 := Hd (HOB.fr hf4 id);have HRB4 := Hd (HRB.fr hf4 id);have HTP4 := Hd (HTP.frF hf4);have HFR4 := Hd (HFR.andF hf4);have HC4 := Hd (fun w1 (hf : Fr (fun _ => False) (wr.alloc (.cells #[.int .i64 k2,.string i2,.slice A2 n2 c2] 174)) w1) => HC.out w1 (hf4.trans' hf));unfold oa at HC4;clear hx4 hf4 HC;go_wp2_with ((with_reducible change wpList _ _ _ (Oper.mk _ (.load 174 _) _ _ _ _ :: _) _ _); refine wpList_load_mid rfl 174 _ rfl _ _ rfl _ _ HRA.out underlying174 rfl bj ?_)
    go_region_law (first
     | (go_simp; go_at_call 236; refine (HC4 _ fw).mono ?_; rintro e w6 ⟨k5,N5,A5,n5,c5,rfl,hna,hf6⟩; have F6 : Fr (fun _ => False) (wr.alloc (.cells #[.int .i64 k2,.string i2,.slice A2 n2 c2] 174)) w6 := Fr.trans' fw hf6; have ho6 := HOB4.fr F6 id; have o6 := ho6.c2; have l6 : w.heap.size + 1 + 1 < w6.heap.size := ho6.lt; have htp6 := HTP4.frF F6; have hlr6 := htp6.row)
     | (refine step_append_lies _ (by rfl) _ _ 330 (by rfl) (w.heap.size + 3) 332 i76 _ 3 40 underlying330 hi76 hz760 hz761 hz762 rfl de (.slice A3 j c3) j L3.flatten (by rfl) (by have h := hlr6.alloc (.cells #[.int .i64 k5,.int .i64 N5,.slice A5 n5 c5] 332); rw [HDL.out] at h; exact h) _ 1 1 [.int .i64 k5,.int .i64 N5,.slice A5 n5 c5] (by rfl) rfl (World.news_of_block (heap_alloc_new w6 _)) (by intro u hu; simp only [List.mem_cons,List.not_mem_nil,or_false] at hu; rcases hu with rfl | rfl | rfl <;> rfl) de (by unfold maxLen; omega) jj (by have := F6.size; have h9 : wr.heap.size ≤ (wr.alloc (.cells #[.int .i64 k2,.string i2,.slice A2 n2 c2] 174)).heap.size := (by simp); simp; omega) _ rfl ?_; intro g8 cap8 w8 hown8 hgr8 hor8 hlt8; have ho8 := (ho6.fr ((Fr.refl (fun _ => False) w6).alloc _) id).fr (Fr.of_grown hgr8) (fun e => by have := bs hlr6 e; omega); have o8 := ho8.c2; have f8 : w8.frozen? ⟨w.heap.size + 1 + 1,2,none⟩ = false := ho8.frozen 2; have l8 : w.heap.size + 1 + 1 < w8.heap.size := ho8.lt))
    all_goals
     have FS : Fr (fun j => j = w.heap.size + 1 + 1) w8 (w8.setCell ⟨w.heap.size + 1 + 1,2,none⟩ (.slice (some ⟨g8,0,none⟩) (j + 1) cap8)) := (Fr.refl (fun j => j = w.heap.size + 1 + 1) w8).setCell ⟨w.heap.size + 1 + 1,2,none⟩ (fun _ => rfl) _;have hs4 : (wr.alloc (.cells #[.int .i64 k2,.string i2,.slice A2 n2 c2] 174)).drew.heap.size = wr.heap.size + 1 := by simp
     have hp6 := cW.push (w' := w8) (l := [.int .i64 k5,.int .i64 N5,.slice A5 n5 c5]) (htp6.frF ((Fr.refl (fun _ => False) w6).alloc (.cells #[.int .i64 k5,.int .i64 N5,.slice A5 n5 c5] 332))) ((TBt.imp (S' := fun i => w.heap.size + 3 ≤ i ∧ (Value.slice A3 j c3).ownBlock ≠ some i) (fun i _ hb => ⟨by omega,fun e => by have := (World.ownsRow.lt HTP.row _ e).2; omega⟩) hna).fr ((Fr.refl (fun _ => False) w6).alloc (.cells #[.int .i64 k5,.int .i64 N5,.slice A5 n5 c5] 332)) ii) (by rw [HDL.out]; exact hown8) hgr8 hor8;rw [HDL.out,HDN.out] at hp6;have HTP9 := Hd (hp6.frX jj FS);have HOB9 := Hd (show Blk (w8.setCell ⟨w.heap.size + 1 + 1,2,none⟩ (.slice (some ⟨g8,0,none⟩) (j + 1) cap8)) (w.heap.size + 2) 332 #[.int .i64 k,.int .i64 0,.slice (some ⟨g8,0,none⟩) (j + 1) cap8] from ho8.set_ 2 _);have hrb8 := ((HRB4.fr F6 id).alloc (.cells #[.int .i64 k5,.int .i64 N5,.slice A5 n5 c5] 332)).fr (Fr.of_grown hgr8) (fun e => by have := bs hlr6 e; omega);have HRB9 := Hd (hrb8.fr FS jj);have HFR9 := Hd ((((HFR4.andF F6).alloc (.cells #[.int .i64 k5,.int .i64 N5,.slice A5 n5 c5] 332)).grown hgr8 (fun i _ e => by have := bs hlr6 e; omega)).andX FS jj);clear hna hf6 F6 ho6 o6 l6 htp6 hlr6 hown8 hgr8 hor8 hlt8 ho8 o8 f8 l8 FS hs4 hp6 hrb8 HTP HOB HRB HFR HTP4 HOB4 HRB4 HFR4 HC4 HRA p0 p1 p2 o4 HDN HDL HD;go_wp2_with fail
     go_roundg (n - (j + 1))
     case measure => omega
     exact ⟨j + 1,_,_,_,_,by push_cast; rfl,by omega,by omega,rfl,HTP9,HOB9,HRB9,HFR9⟩
  · obtain rfl : j = n := jj;have HDT := Hd (show done = ts by rw [HD.out,HN'.out,List.take_length]);have HNA := Hd (fun wz (hfz : Fr (fun j => j = w.heap.size + 1) wr wz) => show NAt φ wz w.heap.size (.node k ts) [.int .i64 k,.int .i64 0,.slice A3 j c3] by
     have h3 := (HTP.frX jj hfz);have hl : done.length = j := by rw [HDT.out,HN'.out]
     rw [← hl] at h3 ⊢;rw [← HDT.out];exact (h3.node k).imp (fun _ _ hb => by omega))
    clear HNN HPA HTP;go_wp2_with (first | ((with_reducible change wpList _ _ _ (Oper.mk _ (.load 332 _) _ _ _ _ :: _) _ _); refine aD rfl 332 _ rfl _ rfl 332 #[.int .i64 k,.int .i64 0,.slice A3 j c3] HOB _ underlying332 rfl gy ?_) | ((with_reducible change wpList _ _ _ (Oper.mk _ (.store 332 _ _) _ _ _ _ :: _) _ _); refine ao rfl 332 _ _ rfl _ #[.int .i64 k,.int .i64 0,.slice A3 j c3] rfl rfl 332 _ HRB (by rfl) (by exact gy) (mf _ _ _ _ _).one ?_));refine Hd ?_;rintro wz hbz hfz;have HFZ := Hd ((HFR.andX hfz jj).shut (Nat.le_refl _));go_wp2_with fail;exact bodyPost_ret (v := .agg #[.int .i64 k,.int .i64 0,.slice A3 j c3]) (results_cell_row rfl _ _ (w.heap.size + 1) 332 _ (0,0) _ rfl hbz underlying332 rfl gy) rfl ⟨_,_,_,_,_,rfl,HNA.out wz hfz,HFZ⟩
theorem vQ (φ : ByteArray → Int) (eb : Nat) (Q : ByteArray → Prop) (KW : World → Prop) (hKW : ∀ W W',KW W → Fr (fun _ => False) W W' → KW W') (HF : Ff φ eb Q KW) (t : PT) (hk : ia t) :
    iH t → gK Q t → ∀ (w : World),KW w → ∀ (B : Nat) (l : List Value),PAt 174 w B t l → Calls prog 236 #[.agg l.toArray,BF eb] w (oa φ t w) := by
 induction hk with
 | leaf k i h =>
  intro _ hq w hw B l hl;cases hl
  cases hq with
  | leaf _ _ hq => exact rm φ eb Q KW hKW HF k h i hq w hw
 | node k ts h h2 hp ih =>
  intro hw hq w hkw B l hl;cases hw with
  | node _ _ hn hw =>
   cases hl with
   | node _ _ A c L hL hpp hr =>
    cases hq with
    | node _ _ hq => exact rp φ eb KW hKW k h h2 ts hn w hkw B A c L ⟨hL,hpp,hr⟩ (fun w1 t l hk1 ht hl => ih t ht (hw t ht) (hq t ht) w1 hk1 B l hl)
def CE (φ : ByteArray → Int) (d : Nat) : Prop := ∀ (t : PT) (n : Nat),dy φ t d n → ∀ (S : Nat → Prop) (w : World) (l : List Value),TBt (nF φ) nZ 332 w S t l → Calls prog 365 #[.agg l.toArray] w (IsB true w)
theorem BH (φ : ByteArray → Int) (d : Nat) (HD : CE φ d) (t : PT) (n : Nat) (hf : dy φ t d n) (S : Nat → Prop) (w : World) (l : List Value) (h : TBt (nF φ) nZ 332 w S t l) :
    Calls prog 374 #[.agg l.toArray] w (IsB false w) := by
 obtain ⟨N,A,c,L,rfl,hp,hn⟩ := dh h;clear hp hn;generalize fq t = k at *;generalize (cp t).length = m at *;have hf0 := Fr.a1 w (.cells #[.int .i64 k,.int .i64 N,.slice A m c] 332);have hx := Blk.new w 332 #[.int .i64 k,.int .i64 N,.slice A m c];have x0 := hx.c0;have x1 := hx.c1;have x2 := hx.c2;have HC := Hd (HD t n hf S _ _ (h.fr hf0 ii));have HF := Hd hf0;clear h hf0 hf hx HD;go_enter func374,ntmps374;go_wp2_with fail;refine HC.mono ?_;rintro e w2 ⟨rfl,hf2⟩;have HF2 := Hd (HF.trans' hf2);clear hf2 x0 x1 x2;go_wp2_with fail;go_ret;exact IsB.mk HF2.out
theorem uB (φ : ByteArray → Int) : ∀ d : Nat,CE φ d
 | 0 => fun t n h => by cases h
 | d + 1 => fun t n hF S w l h => by
  have IH := uB φ d;cases hF with
  | leaf k i _ hk hn =>
   cases h
   have hx := Blk.new w 332 #[.int .i64 k,.int .i64 (φ i),.slice none 0 0];have x0 := hx.c0;have x1 := hx.c1;have x2 := hx.c2;have HF := Hd (show Fr (fun _ => False) w (w.alloc (.cells #[.int .i64 k,.int .i64 (φ i),.slice none 0 0] 332)) from (Fr.refl _ _).alloc _);show Calls prog 365 #[.agg #[.int .i64 k,.int .i64 (φ i),.slice none 0 0]] w (IsB true w);generalize φ i = N at *;clear hx IH;rcases hk with rfl | rfl
   · go_enter func365,ntmps365;go_wp2_with fail;go_ret;exact IsB.mk HF.out
   · go_enter func365,ntmps365;go_wp2_with fail;go_ret;exact IsB.mk HF.out
  | node k ts _ n hk h0 hl hfl =>
   cases h with
   | node _ _ A c L hL hp hr hS =>
    have hP : bF φ w S A c ts L := ⟨hL,hp,hr,hS⟩;have hf := Fr.a1 w (.cells #[.int .i64 k,.int .i64 0,.slice A ts.length c] 332);have HC := Hd (yq 374 #[] yt φ S A c ts L _ (hP.fr hf ii) hl (fun w1 t1 l1 ht hfw hpa => by
     obtain ⟨a,_,hfa⟩ := hfl.each t1 ht;exact BH φ d IH t1 a hfa S w1 l1 hpa))
    have HF := Hd hf;obtain ⟨q,hq⟩ : ∃ q,q = ts.length := ⟨_,rfl⟩;rw [← hq] at h0 HC HF ⊢;have hq0 : ((q : Int) == 0) = false := by simp; omega
    have hx := Blk.new w 332 #[.int .i64 k,.int .i64 0,.slice A q c];have x0 := hx.c0;have x2 := hx.c2;clear hf hx hL hp hr hS hP hfl IH hl hq;rcases hk with rfl | rfl
    · go_enter func365,ntmps365;go_wp2_with fail;refine HC.mono ?_;rintro e w2 ⟨rfl,hf2⟩;have HF2 := Hd (HF.trans' hf2);clear hf2 x0 x2;go_wp2_with fail;go_ret;exact IsB.mk HF2.out
    · go_enter func365,ntmps365;go_wp2_with fail;refine HC.mono ?_;rintro e w2 ⟨rfl,hf2⟩;have HF2 := Hd (HF.trans' hf2);clear hf2 x0 x2;go_wp2_with fail;go_ret;exact IsB.mk HF2.out
theorem yu (φ : ByteArray → Int) (t : PT) (d n : Nat) (hF : dy φ t d n) (hd : d ≤ 40) (hn : n ≤ 200) (S : Nat → Prop) (w : World) (l : List Value) (h : TBt (nF φ) nZ 332 w S t l) :
    Calls prog 348 #[.agg l.toArray] w fun e w' => e = .returned (.int .i64 0) ∧ Fr (fun _ => False) w w' := by
 have H1 := Hd (fun w1 l1 (h1 : TBt (nF φ) nZ 332 w1 S t l1) => uy φ d t n hF 40 hd (Nat.le_refl _) S w1 l1 h1);have H2 := Hd (fun w1 l1 (h1 : TBt (nF φ) nZ 332 w1 S t l1) => uz φ d t n hF hn S w1 l1 h1);have H3 := Hd (fun w1 l1 (h1 : TBt (nF φ) nZ 332 w1 S t l1) => uB φ d t n hF S w1 l1 h1);obtain ⟨N,A,c,L,rfl,hp,hpn⟩ := dh h;clear hp hpn;generalize fq t = k at *;generalize (cp t).length = m at *;have hf0 := Fr.a1 w (.cells #[.int .i64 k,.int .i64 N,.slice A m c] 332);have hx := Blk.new w 332 #[.int .i64 k,.int .i64 N,.slice A m c];have HX := Hd hx;have HH := Hd h;have HF := Hd hf0;have x0 := hx.c0;have x1 := hx.c1;have x2 := hx.c2;have hn0 : (0 : Int) ≤ (n : Int) := jj;have hn200 : ¬ (200 : Int) < (n : Int) := jj;clear h hf0 hx hF hn;go_enter func348,ntmps348;go_wp2_with fail;refine (H1 _ _ (HH.fr HF.out ii)).mono ?_;rintro e w2 ⟨rfl,hf2⟩;have hx2 := HX.fr hf2 id;have HF2 := Hd (HF.trans' hf2);have y0 := hx2.c0;have y1 := hx2.c1;have y2 := hx2.c2;have HX2 := Hd hx2;clear hf2 hx2 x0 x1 x2;go_wp2_with fail;refine (H2 _ _ (HH.fr HF2.out ii)).mono ?_;rintro e w3 ⟨rfl,hf3⟩;have hx3 := HX2.fr hf3 id;have HF3 := Hd (HF2.trans' hf3);have z0 := hx3.c0;have z1 := hx3.c1;have z2 := hx3.c2;clear hf3 hx3 y0 y1 y2;go_wp2_with fail;refine (H3 _ _ (HH.fr HF3.out ii)).mono ?_;rintro e w4 ⟨rfl,hf4⟩;have HF4 := Hd (HF3.trans' hf4);clear hf4 z0 z1 z2;go_wp2_with fail;go_ret;exact ⟨rfl,HF4⟩
theorem b6.set1 (h : b6 w B K mb mv s e) (s' : Int) : b6 (w.setCell ⟨mb,1,none⟩ (.int .i64 s')) B K mb mv s' e := by
 obtain ⟨v,vals,h⟩ := h;exact ⟨v,vals,h.blk.set_ 1 _,h.mvs.frB h.blk de de ((Fr.refl (fun j => j = mb) w).setCell ⟨mb,1,none⟩ (fun _ => rfl) _),h.own,h.row,h.rows,h.base⟩
theorem b6.set2 (h : b6 w B K mb mv s e) (e' : Int) : b6 (w.setCell ⟨mb,2,none⟩ (.int .i64 e')) B K mb mv s e' := by
 obtain ⟨v,vals,h⟩ := h;exact ⟨v,vals,h.blk.set_ 2 _,h.mvs.frB h.blk de de ((Fr.refl (fun j => j = mb) w).setCell ⟨mb,2,none⟩ (fun _ => rfl) _),h.own,h.row,h.rows,h.base⟩
theorem b6.cell1 (h : b6 w B K mb mv s e) : w.cell? ⟨mb,1,none⟩ = some (.int .i64 s) ∧ w.cell? ⟨mb,2,none⟩ = some (.int .i64 e) ∧ w.frozen? ⟨mb,1,none⟩ = false ∧ w.frozen? ⟨mb,2,none⟩ = false ∧ mb < w.heap.size := by
 obtain ⟨v,vals,h⟩ := h;exact ⟨h.blk.cell 1,h.blk.cell 2,h.blk.frozen 1,h.blk.frozen 2,h.blk.lt⟩
def yv (mv : MS) (s e : Int) (w : World) (e' : Ending) (w' : World) : Prop := ∃ mb,w.heap.size ≤ mb ∧ e' = .returned (.tuple #[.pointer (some ⟨mb,0,none⟩),.int .i64 0]) ∧ b6 w' w.heap.size (fun k => w.heap.size ≤ k) mb mv s e ∧ Fr (fun _ => False) w w'
theorem sX (φ : ByteArray → Int) (t : PT) (d n : Nat) (hF : dy φ t d n) (hd : d ≤ 40) (hn : n ≤ 200) (mv : MS) (e : Nat) (hL : ki φ t [[]] 0 mv e) (hmz : msz mv ≤ 200) (S : Nat → Prop) (w : World) (l : List Value) (h : TBt (nF φ) nZ 332 w S t l) :
    Calls prog 325 #[.agg l.toArray] w (yv mv 0 (e : Int) w) := by
 have hlow := h.imp (S' := fun j => j < w.heap.size) (fun j hj _ => hj);have H1 := Hd (fun w1 l1 (h1 : TBt (nF φ) nZ 332 w1 (fun j => j < w.heap.size) t l1) => yu φ t d n hF hd hn _ w1 l1 h1);have H2 := Hd (D1 φ t (dy.wide d hF));obtain ⟨N,A,c,L,rfl,hp,hpn⟩ := dh h;clear hp hpn;generalize fq t = k at *;generalize (cp t).length = m at *;have hf0 := Fr.a1 w (.cells #[.int .i64 k,.int .i64 N,.slice A m c] 332);have hx := Blk.new w 332 #[.int .i64 k,.int .i64 N,.slice A m c];have HX := Hd hx;have HH := Hd hlow;have HF := Hd hf0;have HL := Hd hL;have x0 := hx.c0;have x1 := hx.c1;have x2 := hx.c2;have hsz0 := al1 w (.cells #[.int .i64 k,.int .i64 N,.slice A m c] 332);clear h hf0 hx hF hlow hn hL;go_enter func325,ntmps325;go_wp2_with fail;refine (H1 _ _ (HH.fr HF.out ii)).mono ?_;rintro e2 w2 ⟨rfl,hf2⟩;have hx2 := HX.fr hf2 id;have HF2 := Hd (HF.trans' hf2);have hs2 := hf2.size;rw [hsz0] at hs2;have HX2 := Hd hx2;have hM : b6 (w2.alloc (.cells #[.slice none 0 0,.int .i64 0,.int .i64 0] 452)) w.heap.size (fun j => j = w2.heap.size) w2.heap.size [] 0 0 := ⟨.slice none 0 0,[],Blk.new w2 452 _,⟨World.ownsRow_nil _ _ _ _,fun i hi => (by simp at hi),fun i j hi => (by simp at hi)⟩,rfl,fun k hk => (by cases hk),fun i hi => (by simp at hi),fun k hk => (by show _ ≤ k; have hk : k = w2.heap.size := hk; omega)⟩;have HS := Hd (jM w.heap.size (fun j => j = w2.heap.size) w2.heap.size [] 0 0 _ hM (by simp; omega) (Nat.zero_le _));clear hf2 hx2 x0 x1 x2 hM;go_wp2_with (go_at_call 349; refine HS.mono ?_; rintro e3 w3 ⟨rfl,hst3⟩; have hm3 := hst3.1.cell1; obtain ⟨hc1,hc2,hg1,hg2,hml⟩ := hm3);have HF3 := Hd ((HF2.alloc (.cells #[.slice none 0 0,.int .i64 0,.int .i64 0] 452)).trans hst3.2 (fun j hj h => by have h : j = w2.heap.size := h; omega));have F34 : Fr (fun j => j = w2.heap.size) w3 (w3.setCell ⟨w2.heap.size,1,none⟩ (.int .i64 0)) := (Fr.refl (fun j => j = w2.heap.size) w3).setCell ⟨w2.heap.size,1,none⟩ (fun _ => rfl) _;have HF4 := Hd (HF3.trans F34 (fun j hj h => by have h : j = w2.heap.size := h; omega));have hx4 := (((HX2.alloc (.cells #[.slice none 0 0,.int .i64 0,.int .i64 0] 452)).fr hst3.2 (fun h => by have h : w.heap.size = w2.heap.size := h; omega)).fr F34 (fun h => by have h : w.heap.size = w2.heap.size := h; omega));have hM4 := (hst3.1.set1 0).mono (K' := fun j => w2.heap.size ≤ j) (fun j _ hj => hj.elim (fun h => by have h : j = w2.heap.size := h.1; show w2.heap.size ≤ j; omega) (fun h => by have h : (w2.alloc (.cells #[.slice none 0 0,.int .i64 0,.int .i64 0] 452)).heap.size ≤ j := h; simp at h; show w2.heap.size ≤ j; omega)) (fun j hj => by have hj : w2.heap.size ≤ j := hj; omega);have hm4 := hM4.cell1;have HM4 := Hd hM4;have HX4 := Hd hx4;have HT4 := Hd (HH.fr HF4.out ii);clear hst3 F34 hx4 hM4 hc1 hc2 hg1 hg2 hml;generalize (w3.setCell ⟨w2.heap.size,1,none⟩ (.int .i64 0)) = w4 at *;obtain ⟨hc1,hc2,hg1,hg2,hml⟩ := hm4;have y0 := HX4.c0;have y1 := HX4.c1;have y2 := HX4.c2
 have HC := Hd (fun (W : World) (hf : Fr (fun _ => False) w4 W) => H2.out w.heap.size (fun j => w2.heap.size ≤ j) w2.heap.size [[]] 0 mv e 0 0 HL.out jj (by simp) (fun j => j < w.heap.size) W _ (HM4.frF hf) (by have := hf.size; omega) (fun j _ hj h => by have h : w2.heap.size ≤ j := h; have hj : j < w.heap.size := hj; omega) (HT4.fr hf ii))
 go_region_law (first
  | (go_simp; go_at_call 350; refine (HC _ fw).mono ?_; rintro e5 w5 ⟨rfl,hst5⟩; have F5 : Fr (fun j => w2.heap.size ≤ j) w4 w5 := Fr.trans (S := fun j => w2.heap.size ≤ j) fw hst5.2 ii; have hm5 := hst5.1.cell1; obtain ⟨_,hd2,_,hgd2,hml5⟩ := hm5)
  | fail)
 all_goals
  have HP := Hd ((hst5.1.set2 (e : Int)).mono (K' := fun j => w.heap.size ≤ j) (fun j _ hj => hj.elim (fun h => by have h : w2.heap.size ≤ j := h.1; show w.heap.size ≤ j; omega) (fun h => by have h := h; simp at h; show w.heap.size ≤ j; omega)) (fun j hj => hj));have HF5 := Hd (show Fr (fun _ => False) w (w5.setCell ⟨w2.heap.size,2,none⟩ (.int .i64 (e : Int))) from (HF4.trans F5 (fun j hj h => by have h : w2.heap.size ≤ j := h; omega)).trans ((Fr.refl (fun j => j = w2.heap.size) w5).setCell ⟨w2.heap.size,2,none⟩ (fun _ => rfl) _) (fun j hj h => by have h : j = w2.heap.size := h; omega));clear hst5 F5 hd2 hgd2 hml5 y0 y1 y2;go_wp2_with fail;go_ret2;exact ⟨w2.heap.size,by omega,rfl,HP,HF5⟩
end Go.Proofs.YtfaapkpebnagmaaGreatDoor
