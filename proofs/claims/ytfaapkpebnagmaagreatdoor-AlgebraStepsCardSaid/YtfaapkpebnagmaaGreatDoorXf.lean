/- Texts of the proof, one behind the other: Gv, Hf, Aa, Ed, Ee. -/
import Derived.Test.YtfaapkpebnagmaaGreatDoorXe
import Derived.Laws.Externs
import Derived.Shelf.Strconv.Itoa4
import Derived.Shelf.LaysM
namespace Go.Proofs.YtfaapkpebnagmaaGreatDoor
open _root_.Go.Proofs.Tryz
open Go.RowKit Go
set_option linter.unusedVariables false
set_option maxRecDepth 100000
set_option maxHeartbeats 400000000
variable {w w' : World} {B n r g c B' e clock : Nat} {vals : List Value} {vr v nv : Value} {rows : List (List Int)} {f : ByteArray → Option Value} {S : Nat → Prop} {xs : List Int} {ss : List ByteArray} {t : TypeId} {cs : Array Value}
def ap (w : World) (B : Nat) (v : Value) (xs : List Int) : Prop := w.ownsRow B 3 1 v xs.length (xs.map (.int .i64))
structure ak (w : World) (B : Nat) (vr : Value) (vals : List Value) (rows : List (List Int)) : Prop where
 own : w.ownsRow B 99 1 vr rows.length vals
 each : ∀ i,i < rows.length → ap w B (vals.getD i undef) (rows.getD i [])
theorem eI (h : ap w B (.slice (some ⟨g,0,none⟩) n c) xs) (j : Nat) (hj : j < xs.length) : w.cell? ⟨g,j,none⟩ = some (.int .i64 (xs.getD j 0)) := by
 have hn : n = xs.length := by
  obtain ⟨A,c',e⟩ := ad h;injection e
 unfold ap at h;subst hn;rw [World.ownsRow.cellAt h j jj,List.getElem?_map,List.getD_eq_getElem?_getD];rw [List.getElem?_eq_getElem jj];rfl
theorem uV (h : w.ownsRow B 9 1 (.slice (some ⟨g,0,none⟩) n c) n (ss.map .string)) : ∀ j,j < ss.length → w.cell? ⟨g,0 + j,none⟩ = some (.string (ss.getD j ByteArray.empty)) := by
 intro j hj;rw [Nat.zero_add];have hl : ss.length = n := by have := h.1; simpa using this
 exact bL h j jj
theorem ap.fr (h : ap w B v xs) (hf : Fr S w w') (hs : ∀ k,v.ownBlock = some k → ¬ S k) : ap w' B v xs := aa h hf hs
theorem aw {e' s s' n' : Nat} {v' : Value} {xs xs' : List Value} (h : w.ownsRow B e s v n xs) (h' : w.ownsRow B' e' s' v' n' xs') (hne : e ≠ e') {k : Nat} (hk : v.ownBlock = some k) : v'.ownBlock ≠ some k := by
 rcases h.2 with ⟨rfl,_⟩ | ⟨g,cap,cur,rfl,_,hh,_⟩
 · cases hk
 · have : g = k := by simpa [Value.ownBlock] using hk
   subst this;exact ac h' (show Blk w g e cur from hh) (Ne.symm hne)
theorem ak.fr (h : ak w B vr vals rows) (hf : Fr S w w') (h1 : ∀ k,vr.ownBlock = some k → ¬ S k)
    (h2 : ∀ i,i < rows.length → ∀ k,(vals.getD i undef).ownBlock = some k → ¬ S k) : ak w' B vr vals rows :=
 ⟨aa h.own hf h1,fun i hi => (h.each i hi).fr hf (h2 i hi)⟩
theorem ak.frF (h : ak w B vr vals rows) (hf : Fr (fun _ => False) w w') : ak w' B vr vals rows :=
 h.fr hf ii (fun _ _ _ _ h => h)
theorem ak.len (h : ak w B vr vals rows) : vals.length = rows.length := by have := h.own.1; simpa using this
theorem ai {size : Nat} {xs : List Value} (h : w.ownsRow B e size v n xs) (hB : B' ≤ B) : w.ownsRow B' e size v n xs := by
 refine ⟨h.1,?_⟩;rcases h.2 with hn | ⟨g,cap,cur,rfl,hb,hgg,rest⟩
 · exact .inl hn
 · exact .inr ⟨g,cap,cur,rfl,Nat.le_trans hB hb,hgg,rest⟩
theorem ak.base (h : ak w B vr vals rows) (hB : B' ≤ B) : ak w B' vr vals rows :=
 ⟨ai h.own hB,fun i hi => ai (h.each i hi) hB⟩
theorem ak.frB {tb : Nat} (h : ak w B vr vals rows) (hb : Blk w tb t cs) (h48 : 99 ≠ t) (h3 : 3 ≠ t) (hf : Fr (fun j => j = tb) w w') : ak w' B vr vals rows :=
 h.fr hf (fun k hk e => ac h.own hb h48 (by rw [hk,e])) (fun i hi k hk e => ac (h.each i hi) hb h3 (by rw [hk,e]))
theorem ak.push {w6 : World} {H : Nat} {v6 : Value} (h : ak w B vr vals rows) (hn : ap w H nv xs) (hBH : B ≤ H) (o : Obj)
    (hown : w6.ownsRow B 99 1 v6 (rows.length + 1) (vals ++ [nv])) (hg : (w.alloc o).grownBy w6 vr.ownBlock) : ak w6 B v6 (vals ++ [nv]) (rows ++ [xs]) := by
 have hf : Fr (fun j => vr.ownBlock = some j) w w6 := ((Fr.refl _ w).alloc o).trans (Fr.of_grown hg) ii;have hl := h.len;refine ⟨by rw [List.length_append]; exact hown,fun i hi => ?_⟩;rw [List.length_append,List.length_singleton] at hi;by_cases hlt : i < rows.length
 · have e1 : (vals ++ [nv]).getD i undef = vals.getD i undef := by rw [List.getD_eq_getElem?_getD,List.getElem?_append_left jj,← List.getD_eq_getElem?_getD]
   have e2 : (rows ++ [xs]).getD i [] = rows.getD i [] := by rw [List.getD_eq_getElem?_getD,List.getElem?_append_left jj,← List.getD_eq_getElem?_getD]
   rw [e1,e2];exact (h.each i hlt).fr hf (fun k hk e => aw h.own (h.each i hlt) de e hk)
 · have hi2 : i = rows.length := jj;subst hi2;have e1 : (vals ++ [nv]).getD rows.length undef = nv := by rw [List.getD_eq_getElem?_getD,List.getElem?_append_right jj,hl]; simp
   have e2 : (rows ++ [xs]).getD rows.length [] = xs := by rw [List.getD_eq_getElem?_getD,List.getElem?_append_right jj]; simp
   rw [e1,e2];exact ai (hn.fr hf (fun k hk e => aw h.own hn de e hk)) hBH
theorem uW (hl : vals.length = n) : (∀ i,i < n → (vals ++ [nv]).getD i undef = vals.getD i undef) ∧ (vals ++ [nv]).getD n undef = nv :=
 ⟨fun i hi => by rw [List.getD_eq_getElem?_getD,List.getElem?_append_left jj,← List.getD_eq_getElem?_getD],
  by rw [List.getD_eq_getElem?_getD,List.getElem?_append_right jj,hl]; simp⟩
theorem info3 : (prog.info? 3).map (fun i => (i.zero,i.size,i.bytes)) = some (some (.int .i64 0),1,8) := kr
theorem jY : (prog.info? 99).map (fun i => (i.zero,i.size,i.bytes)) = some (some (.slice none 0 0),1,24) := kr
def kI (w : World) (B tb m vc : Nat) (V : Option Addr) (vr : Value) (vals : List Value) (rows : List (List Int)) (xs : List Int) (e : Ending) (w' : World) : Prop :=
 e = .returned (.tuple #[]) ∧ ∃ vr' vals',Blk w' tb 47 #[.slice V m vc,vr'] ∧ ak w' B vr' vals' (rows ++ [xs]) ∧ Fr (fun j => j = tb ∨ vr.ownBlock = some j) w w' ∧
  (∀ k,vr'.ownBlock = some k → vr.ownBlock = some k ∨ w.heap.size ≤ k) ∧ (∀ i,i < rows.length → vals'.getD i undef = vals.getD i undef) ∧ (∀ k,(vals'.getD rows.length undef).ownBlock = some k → w.heap.size ≤ k)
def aL (w : World) (B m : Nat) (tv : Value) (ss : List ByteArray) (rows : List (List Int)) : Prop :=
 ∃ V vc vr vals,tv = .agg #[.slice V m vc,vr] ∧ w.ownsRow B 9 1 (.slice V m vc) m (ss.map .string) ∧ ak w B vr vals rows
def aQ (w : World) (m : Nat) (ss : List ByteArray) (rows : List (List Int)) (e : Ending) (w' : World) : Prop :=
 ∃ tv,e = .returned tv ∧ aL w' w.heap.size m tv ss rows ∧ Fr (fun _ => False) w w'
theorem zZ (s : ByteArray) (w : World) : Calls prog 256 #[.string s] w fun e w' => e = .returned (.bool false) ∧ w = w' := by
 go_enter func256,ntmps256;go_wp2_with fail;go_ret;exact ⟨rfl,rfl⟩
structure gR (ss : List ByteArray) (v : ByteArray) (p : Nat) (fnd : Bool) : Prop where
 le : p ≤ ss.length
 less : ∀ k,k < ss.length → Op.bytesLess (ss.getD k ByteArray.empty).toList v.toList = decide (k < p)
 here : p < ss.length → ((ss.getD p ByteArray.empty).toList == v.toList) = fnd
 there : p = ss.length → fnd = false
theorem CU {V : Option Addr} (h : w.ownsRow B 9 1 (.slice V n c) n (ss.map .string)) (j : Nat) (hj : j < n) : ∃ g,V = some ⟨g,0,none⟩ ∧ w.cell? ⟨g,j,none⟩ = some (.string (ss.getD j ByteArray.empty)) := by
 obtain ⟨g,rfl,_,_,_⟩ := ar h jj;exact ⟨g,rfl,bL h j hj⟩
theorem tQ (h : w.ownsRow B 9 1 v n (ss.map .string)) : ss.length = n := by
 have := h.1;simpa using this
theorem rR (n c B p : Nat) (V : Option Addr) (ss : List ByteArray) (v : ByteArray) (fnd : Bool) (w : World) (hn : n ≤ 4096) (hv : gR ss v p fnd) (hs : w.ownsRow B 9 1 (.slice V n c) n (ss.map .string)) :
    Calls prog 203 #[.slice V n c,.string v] w fun e w' => e = .returned (.tuple #[.int .i64 p,.bool fnd]) ∧ w = w' := by
 have HL := Hd (fun a b w => wM a b w);have HN := Hd (fun s w => zZ s w);have HC := Hd (fun j hj => CU hs j hj);have hsl := tQ hs;have HV := Hd hv;have hp := hv.le;rw [hsl] at hp;have HSL := Hd hsl;clear hs hv hsl;go_enter func203,ntmps203;go_wp2_with fail
 go_loopw [7,8] (fun iv jv wr => ∃ i j : Nat,iv = .int .i64 (i : Int) ∧ jv = .int .i64 (j : Int) ∧ i ≤ p ∧ p ≤ j ∧ j ≤ n ∧ w = wr) (fun iv jv _ => (intOf jv).toNat - (intOf iv).toNat)
 case atStart => exact ⟨0,n,rfl,rfl,by omega,by omega,by omega,rfl⟩
 case round =>
  obtain ⟨i,j,rfl,rfl,hi,hj,hj3,rfl⟩ := hrel;by_cases hlt : i < j
  · have hlt' : decide (i < j) = true := by simpa using hlt
    obtain ⟨g,rfl,c0⟩ := HC ((i + j) / 2) jj;have l0 := HV.less ((i + j) / 2) (by rw [HSL.out]; omega);generalize ss.getD ((i + j) / 2) ByteArray.empty = x at *;by_cases hm : (i + j) / 2 < p
    · rw [decide_eq_true hm] at l0;go_wp2_with fail;refine (HL _ _ _).mono ?_;rintro e w1 ⟨rfl,rfl⟩;go_wp2_with fail;go_roundw
      case rel => exact ⟨(i + j) / 2 + 1,j,by rw [show (((i + j) / 2 + 1 : Nat) : Int) = ((i : Int) + j) / 2 + 1 by omega],rfl,by omega,by omega,by omega,trivial⟩
      case measure => simp [intOf]; omega
    · rw [decide_eq_false hm] at l0;go_wp2_with fail;refine (HL _ _ _).mono ?_;rintro e w1 ⟨rfl,rfl⟩;go_wp2_with fail;go_roundw
      case rel => exact ⟨i,(i + j) / 2,rfl,by rw [show (((i + j) / 2 : Nat) : Int) = ((i : Int) + j) / 2 by omega],by omega,by omega,by omega,trivial⟩
      case measure => simp [intOf]; omega
  · have hij : i = p := jj;have hji : j = i := jj;subst hji;subst hij;have hlt' : decide (j < j) = false := by simp
    by_cases h3 : j < n
    · have h3' : decide (j < n) = true := by simp [h3]
      obtain ⟨g,rfl,c0⟩ := HC.out j h3;have l0 := HV.here (by rw [HSL.out]; exact h3);generalize ss.getD j ByteArray.empty = x at *;cases fnd with
      | true =>
       go_wp2_with fail;go_ret2;exact ⟨rfl,rfl⟩
      | false =>
       go_wp2_with fail;refine (HN _ _).mono ?_;rintro e w1 ⟨rfl,rfl⟩;go_wp2_with fail;go_ret2;exact ⟨rfl,rfl⟩
    · have h3' : decide (j < n) = false := by simp; omega
      have l0 := HV.there (by rw [HSL.out]; omega);subst l0;go_wp2_with fail;go_ret2;exact ⟨rfl,rfl⟩
def rS (p : Nat) (fnd : Bool) : Int := if fnd = true then (p : Int) else -1
theorem uX (m vc B p : Nat) (V : Option Addr) (vr : Value) (ss : List ByteArray) (v : ByteArray) (fnd : Bool) (w : World) (hm : m ≤ 4096) (hv : gR ss v p fnd) (hs : w.ownsRow B 9 1 (.slice V m vc) m (ss.map .string)) :
    Calls prog 143 #[.agg #[.slice V m vc,vr],.string v] w fun e w' => e = .returned (.int .i64 (rS p fnd)) ∧ Fr (fun _ => False) w w' := by
 have HS := Hd (fun w hs => rR m vc B p V ss v fnd w hm hv hs);have HV := Hd hs;unfold rS;clear hv hs;cases fnd with
 | true =>
  go_enter func143,ntmps143;go_wp2_with fail;refine (HS _ (HV.alloc _)).mono ?_;rintro e w1 ⟨rfl,rfl⟩;go_wp2_with fail;go_ret;exact ⟨rfl,(Fr.refl _ _).alloc _⟩
 | false =>
  go_enter func143,ntmps143;go_wp2_with fail;refine (HS _ (HV.alloc _)).mono ?_;rintro e w1 ⟨rfl,rfl⟩;go_wp2_with fail;go_ret;exact ⟨rfl,(Fr.refl _ _).alloc _⟩
def mO (p : Nat) (fnd : Bool) (xs : List Int) : Int := if fnd = true then xs.getD p 0 else -1
theorem ip (m vc B B' p : Nat) (V : Option Addr) (vt : Value) (ss : List ByteArray) (v : ByteArray) (fnd : Bool) (vr : Value) (xs : List Int) (w : World) (hm : m ≤ 4096) (hv : gR ss v p fnd) (hx : xs.length = m) (hs : w.ownsRow B 9 1 (.slice V m vc) m (ss.map .string)) (hr : ap w B' vr xs) :
    Calls prog 87 #[.agg #[.slice V m vc,vt],vr,.string v] w fun e w' => e = .returned (.int .i64 (mO p fnd xs)) ∧ Fr (fun _ => False) w w' := by
 have HP := Hd (fun w hs => uX m vc B p V vt ss v fnd w hm hv hs);have HV := Hd hs;have HR := Hd hr;have hsl := tQ hs;obtain ⟨R,rc,hvr⟩ := ad hr;subst hvr;rw [hx] at HR;rw [hx];have hp : fnd = true → p < m := fun h => by
  rcases Nat.lt_or_ge p m with h1 | h1
  · exact h1
  · have := hv.there (by have := hv.le; omega);rw [this] at h;cases h
 unfold rS at HP;unfold mO;clear hv hs hr;cases fnd with
 | true =>
  have hp3 := hp rfl;have hp3' : (p : Int) < (m : Int) := jj;have hown := HR.out;unfold ap at hown;rw [hx] at hown;obtain ⟨rg,rfl,_,_,_⟩ := ar hown jj;clear hown;simp only [if_true] at HP ⊢;go_enter func87,ntmps87;go_wp2_with fail;refine (HP _ (HV.alloc _)).mono ?_;rintro e w1 ⟨rfl,hf⟩;have c0 := eI (HR.fr ((((Fr.refl _ _).alloc _).trans' hf : Fr (fun _ => False) w w1)) ii) p jj;have HF := Hd (((Fr.refl _ _).alloc _).trans' hf : Fr (fun _ => False) w w1);obtain ⟨y,hy⟩ : ∃ y,xs.getD p 0 = y := ⟨_,rfl⟩;rw [hy] at c0;have HY := Hd hy;clear hf hp hy;go_wp2_with fail;go_ret;exact ⟨by rw [HY.out]; rfl,HF⟩
 | false =>
  simp only [Bool.false_eq_true,if_false] at HP ⊢;go_enter func87,ntmps87;go_wp2_with fail;refine (HP _ (HV.alloc _)).mono ?_;rintro e w1 ⟨rfl,hf⟩;have HF := Hd (((Fr.refl _ _).alloc _).trans' hf : Fr (fun _ => False) w w1);clear hf hp;go_wp2_with fail;go_ret;exact ⟨rfl,HF⟩
theorem EB (x : Int) (w : World) (hx : -1 ≤ x) : Calls prog 31 #[.int .i64 x] w fun e w' => e = .returned (.bool false) ∧ w = w' := by
 have hx' : ¬ x < -1 := jj;go_enter func31,ntmps31;go_wp2_with fail;go_ret;exact ⟨rfl,rfl⟩
theorem EC (m c B : Nat) (V : Option Addr) (xs : List Int) (w : World) (hm9 : m ≤ 4096) (hl : xs.length = m) (hm : ∀ k,k < m → -1 ≤ xs.getD k 0) (hr : ap w B (.slice V m c) xs) :
    Calls prog 80 #[.slice V m c,.func (.func 31) #[] #[]] w fun e w' => e = .returned (.int .i64 (-1)) ∧ w = w' := by
 have HL := Hd (fun x w hx => EB x w hx);have HR := Hd hr;have HM := Hd hm;have HN := Hd hl;clear hr hm hl;go_enter func80,ntmps80;go_wp2_with fail
 go_loopw [8] (fun iv wr => ∃ i : Nat,iv = .int .i64 (i : Int) ∧ i ≤ m ∧ w = wr) (fun iv _ => m - (intOf iv).toNat)
 case atStart => exact ⟨0,rfl,Nat.zero_le _,rfl⟩
 case round =>
  obtain ⟨i,rfl,hi,rfl⟩ := hrel;by_cases hlt : i < m
  · have hlt' : (i : Int) < (m : Int) := jj;have hown := HR.out;unfold ap at hown;rw [HN.out] at hown;obtain ⟨g,rfl,_,_,_⟩ := ar hown jj;have c0 := eI HR.out i (by rw [HN.out]; exact hlt);have hx := HM.out i hlt;clear hown;generalize xs.getD i 0 = x at *;go_wp2_with fail;refine (HL _ _ hx).mono ?_;rintro e w1 ⟨rfl,rfl⟩;go_wp2_with fail;go_roundw
    case rel => exact ⟨i + 1,by go_num,by omega,trivial⟩
    case measure => simp [intOf]; omega
  · have hlt' : ¬ (i : Int) < (m : Int) := jj;go_wp2_with fail;go_ret;exact ⟨rfl,rfl⟩
theorem ED (m c B : Nat) (V : Option Addr) (xs : List Int) (w : World) (hm9 : m ≤ 4096) (hl : xs.length = m) (hm : ∀ k,k < m → -1 ≤ xs.getD k 0) (hr : ap w B (.slice V m c) xs) :
    Calls prog 30 #[.slice V m c,.func (.func 31) #[] #[]] w fun e w' => e = .returned (.bool false) ∧ w = w' := by
 have HI := Hd (EC m c B V xs w hm9 hl hm hr);clear hm hr hl;go_enter func30,ntmps30;go_wp2_with fail;refine HI.mono ?_;rintro e w1 ⟨rfl,rfl⟩;go_wp2_with fail;go_ret;exact ⟨rfl,rfl⟩
theorem EE (tb vc m c B : Nat) (V W : Option Addr) (xs : List Int) (w : World) (hm9 : m ≤ 4096) (hl : xs.length = m) (hm : ∀ k,k < m → -1 ≤ xs.getD k 0) (hr : ap w B (.slice V m c) xs)
    (t0 : w.cell? ⟨tb,0,none⟩ = some (.slice W m vc)) :
    Calls prog 29 #[.slice V m c,.pointer (some ⟨tb,0,none⟩)] w fun e w' => e = .returned (.bool false) ∧ w = w' := by
 have HI := Hd (ED m c B V xs w hm9 hl hm hr);clear hm hr hl;go_enter func29,ntmps29;go_wp2_with fail;refine HI.mono ?_;rintro e w1 ⟨rfl,rfl⟩;go_wp2_with fail;go_ret;exact ⟨rfl,rfl⟩
theorem EF (tb vc m B : Nat) (W : Option Addr) (vr : Value) (vals : List Value) (g : List (List Int)) (w : World) (hm9 : m ≤ 4096) (hn : g.length ≤ 4096) (hl : ∀ i,i < g.length → (g.getD i []).length = m) (hm : ∀ i,i < g.length → ∀ k,k < m → -1 ≤ (g.getD i []).getD k 0) (hr : ak w B vr vals g)
    (t0 : w.cell? ⟨tb,0,none⟩ = some (.slice W m vc)) :
    Calls prog 79 #[vr,.func (.func 29) #[] #[.pointer (some ⟨tb,0,none⟩)]] w fun e w' => e = .returned (.int .i64 (-1)) ∧ w = w' := by
 obtain ⟨A,c,hv⟩ := ad hr.own;subst hv;have HL := Hd (fun c B V xs w hl hm hr t0 => EE tb vc m c B V W xs w hm9 hl hm hr t0);have HR := Hd hr;have HM := Hd hm;have HN := Hd hl;have HT := Hd t0;clear hr hm hl t0;generalize hgl : g.length = n at *;have HGL := Hd hgl;clear hgl;go_enter func79,ntmps79;go_wp2_with fail
 go_loopw [8] (fun iv wr => ∃ i : Nat,iv = .int .i64 (i : Int) ∧ i ≤ n ∧ w = wr) (fun iv _ => n - (intOf iv).toNat)
 case atStart => exact ⟨0,rfl,Nat.zero_le _,rfl⟩
 case round =>
  obtain ⟨i,rfl,hi,rfl⟩ := hrel;by_cases hlt : i < n
  · have hlt' : decide (i < n) = true := by simpa using hlt
    have hown := HR.own;rw [HGL.out] at hown;obtain ⟨ga,rfl,_,_,_⟩ := ar hown jj;have c0 : w.cell? ⟨ga,i,none⟩ = some (vals.getD i undef) := by
     rw [World.ownsRow.cellAt hown i jj,List.getD_eq_getElem?_getD,List.getElem?_eq_getElem (by have := HR.out.len; rw [HGL.out] at this; omega)]; rfl
    have hek := HR.each i (by rw [HGL.out]; exact hlt);have h3 := HN.out i hlt;obtain ⟨RA,rc,hvk⟩ := ad hek;rw [hvk] at c0 hek;rw [h3] at c0 hek;have HC := Hd (HL.out rc _ RA _ w h3 (HM.out i hlt) hek HT);clear hown hek h3;go_wp2_with fail;refine HC.mono ?_;rintro e w1 ⟨rfl,rfl⟩;go_wp2_with fail;go_roundw
    case rel => exact ⟨i + 1,by go_num,by omega,trivial⟩
    case measure => simp [intOf]; omega
  · have hlt' : decide (i < n) = false := by simpa using hlt
    have hin : i = n := jj;subst hin;go_wp2_with fail;go_ret;exact ⟨rfl,rfl⟩
theorem EG (tb vc m B : Nat) (W : Option Addr) (vr : Value) (vals : List Value) (g : List (List Int)) (w : World) (hm9 : m ≤ 4096) (hn : g.length ≤ 4096) (hl : ∀ i,i < g.length → (g.getD i []).length = m) (hm : ∀ i,i < g.length → ∀ k,k < m → -1 ≤ (g.getD i []).getD k 0) (hr : ak w B vr vals g)
    (t0 : w.cell? ⟨tb,0,none⟩ = some (.slice W m vc)) :
    Calls prog 28 #[vr,.func (.func 29) #[] #[.pointer (some ⟨tb,0,none⟩)]] w fun e w' => e = .returned (.bool false) ∧ w = w' := by
 have HI := Hd (EF tb vc m B W vr vals g w hm9 hn hl hm hr t0);clear hm hr hl t0;go_enter func28,ntmps28;go_wp2_with fail;refine HI.mono ?_;rintro e w1 ⟨rfl,rfl⟩;go_wp2_with fail;go_ret;exact ⟨rfl,rfl⟩
theorem qd (vc m B B2 : Nat) (V : Option Addr) (ss : List ByteArray) (vr : Value) (vals : List Value) (g : List (List Int)) (w : World) (hm9 : m ≤ 4096) (hn : g.length ≤ 4096) (hl : ∀ i,i < g.length → (g.getD i []).length = m) (hm : ∀ i,i < g.length → ∀ k,k < m → -1 ≤ (g.getD i []).getD k 0) (hr : ak w B vr vals g)
    (hs : ∀ k,k + 1 < m → Op.bytesLess (ss.getD k ByteArray.empty).toList (ss.getD (k + 1) ByteArray.empty).toList = true)
    (hv : w.ownsRow B2 9 1 (.slice V m vc) m (ss.map .string)) :
    Calls prog 9 #[.agg #[.slice V m vc,vr]] w (IsB true w) := by
 obtain ⟨A,c,hvr⟩ := ad hr.own;subst hvr;have HH := Hd (fun wy (hf : Fr (fun _ => False) w wy) t0 => EG w.heap.size vc m B V _ vals g wy hm9 hn hl hm (hr.frF hf) t0);have HV := Hd hv;have HS := Hd hs;have hb := Blk.new w 47 #[.slice V m vc,.slice A g.length c];have HB := Hd hb;clear hr hm hl hv hb hs;go_enter func9,ntmps9;go_wp2_with fail
 go_loopw [7] (fun iv wr => ∃ i : Nat,iv = .int .i64 (i : Int) ∧ i ≤ m ∧ Fr (fun _ => False) w wr ∧ Blk wr w.heap.size 47 #[.slice V m vc,.slice A g.length c]) (fun iv _ => m - (intOf iv).toNat)
 case atStart => exact ⟨0,rfl,Nat.zero_le _,(Fr.refl _ _).alloc _,HB⟩
 case round =>
  obtain ⟨i,rfl,hi,hf,hbl⟩ := hrel;have t0 := hbl.c0;have t1 := hbl.c1;have HF := Hd hf;have HBL := Hd hbl;have hvv := aa HV.out hf ii;clear hf hbl;by_cases hlt : i < m
  · have hlt' : (i : Int) < (m : Int) := jj;by_cases h0 : i = 0
    · subst h0;clear hvv;go_wp2_with fail
      go_quiet (fail);go_wp2_with fail;go_roundw
      case rel => exact ⟨1,rfl,by omega,HF.drewN _,HBL.drewN _⟩
      case measure => simp [intOf]; omega
    · obtain ⟨k,rfl⟩ : ∃ k,i = k + 1 := ⟨i - 1,by omega⟩;obtain ⟨vg,rfl,_,_,_⟩ := ar hvv jj;have c0 := bL hvv k jj;have c1 := bL hvv (k + 1) jj;have hls := HS.out k jj;generalize ss.getD k ByteArray.empty = x at *;generalize ss.getD (k + 1) ByteArray.empty = y at *;clear hvv;go_wp2_with fail
      go_quiet (fail);go_wp2_with fail;go_roundw
      case rel => exact ⟨k + 2,by go_num,by omega,HF.drewN _,HBL.drewN _⟩
      case measure => simp [intOf]; omega
  · have hlt' : ¬ (i : Int) < (m : Int) := jj;go_wp2_with fail;refine (HH _ HF.out t0).mono ?_;rintro e w1 ⟨rfl,rfl⟩;go_wp2_with fail;go_ret;exact ⟨rfl,HF⟩
theorem rT (n c B : Nat) (g : Nat) (xs : List Int) (w : World) (hn : n ≤ 4096) (hr : ap w B (.slice (some ⟨g,0,none⟩) n c) xs) (hl : xs.length = n) :
    Calls prog 88 #[.slice (some ⟨g,0,none⟩) n c] w fun e w' => ∃ v,e = .returned v ∧ ap w' w.heap.size v xs ∧ Fr (fun _ => False) w w' := by
 obtain ⟨i3,hi3,hz30,hz31,hz32⟩ := info_parts info3;have HC := Hd hr;have hc2 : ∀ j u,(xs.map (Value.int .i64))[j]? = some u → (w.alloc (.cells #[] 3)).cell? ((⟨g,0,none⟩ : Addr).add j) = some u := by
  intro j u hj;rw [List.getElem?_map] at hj;obtain ⟨x,hx,hxu⟩ := Option.map_eq_some_iff.1 hj;obtain ⟨hlt,he⟩ := List.getElem?_eq_some_iff.1 hx;have h := eI HC.out j jj;rw [List.getD_eq_getElem?_getD,hx,Option.getD_some,hxu] at h;have e : (⟨g,0,none⟩ : Addr).add j = ⟨g,j,none⟩ := pY g j;rw [e];exact aG ((Fr.refl _ _).alloc _) h
 have hrow : (w.alloc (.cells #[] 3)).ownsRow w.heap.size 3 1 (.slice (some ⟨w.heap.size,0,none⟩) 0 0) 0 [] := World.ownsRow_lit w #[] 0 (Nat.le_refl _) de rfl;have HC2 := Hd hc2;clear hc2 hr;have hq : ∀ w,(binOp .eql 99 (.slice (some ⟨g,0,none⟩) n c) (.slice none 0 0)).run prog w = .ok (.bool false) w := fun w => by rfl
 go_enter func88,ntmps88;go_wp2_with (at_builtin; refine wpList_append_own _ rfl _ _ 99 rfl w.heap.size 3 i3 _ 1 8 underlying99 hi3 hz30 hz31 hz32 rfl de _ 0 [] (by rfl) hrow ⟨g,0,none⟩ n c (xs.map (.int .i64)) (by rfl) (by simp [hl]) HC2 (by intro u hu; obtain ⟨x,_,rfl⟩ := List.mem_map.1 hu; rfl) (by unfold maxLen; omega) jj (by simp) ?_; intro v2 w2 hown2 hgr2 _; obtain ⟨A2,c2,hv2⟩ := ad hown2; subst hv2);have HF := Hd (((Fr.refl (fun _ => False) w).alloc (.cells #[] 3)).grown hgr2 (fun k hk e => by injection e with e; simp at e; omega));have HR := Hd hown2;go_wp2_with fail;go_ret;refine ⟨_,rfl,?_,HF⟩;unfold ap;rw [hl];simpa using HR.out
theorem wQ (room : Int) (w : World) (h1 : 1 ≤ room) (h2 : room ≤ 100000) :
    Calls prog 14 #[.int .i64 room] w fun e w' => e = .returned (.tuple #[.pointer (some ⟨w.heap.size,0,none⟩),.int .i64 0]) ∧ Fr (fun _ => False) w w' := by
 go_enter func14,ntmps14;go_wp2_with fail;go_ret2;exact ⟨rfl,(Fr.refl _ _).alloc _⟩
def qe (w : World) (e : Ending) (w' : World) : Prop := ∃ vr vals,e = .returned (.agg #[.slice none 0 0,vr]) ∧ ak w' w.heap.size vr vals [[]] ∧ Fr (fun _ => False) w w'
theorem qf (w : World) : Calls prog 71 #[] w (qe w) := by
 have hz1 := al1 w (.cells #[.slice none 0 0,.slice (some ⟨w.heap.size + 1 + 1,0,none⟩) 1 1] 47);have hz2 := al2 w (.cells #[.slice none 0 0,.slice (some ⟨w.heap.size + 1 + 1,0,none⟩) 1 1] 47) (.cells #[] 3);have hb := ((Blk.new w 47 #[.slice none 0 0,.slice (some ⟨w.heap.size + 1 + 1,0,none⟩) 1 1]).alloc (.cells #[] 3)).alloc (.cells #[.slice (some ⟨w.heap.size + 1,0,none⟩) 0 0] 99);have h0 := World.ownsRow_lit (base := w.heap.size) (e := 3) (size := 1) (w.alloc (.cells #[.slice none 0 0,.slice (some ⟨w.heap.size + 1 + 1,0,none⟩) 1 1] 47)) #[] 0 jj de rfl;have h1 := World.ownsRow_lit (base := w.heap.size) (e := 99) (size := 1) ((w.alloc (.cells #[.slice none 0 0,.slice (some ⟨w.heap.size + 1 + 1,0,none⟩) 1 1] 47)).alloc (.cells #[] 3)) #[.slice (some ⟨w.heap.size + 1,0,none⟩) 0 0] 1 jj de rfl;rw [hz1] at h0;rw [hz2] at h1;have F := Fr.a3 w (.cells #[.slice none 0 0,.slice (some ⟨w.heap.size + 1 + 1,0,none⟩) 1 1] 47) (.cells #[] 3) (.cells #[.slice (some ⟨w.heap.size + 1,0,none⟩) 0 0] 99);have HB := Hd hb;have H0 := Hd (h0.alloc (.cells #[.slice (some ⟨w.heap.size + 1,0,none⟩) 0 0] 99));have H1 := Hd h1;have HF := Hd F;clear hb h0 h1 F hz1 hz2;go_enter func71,ntmps71;go_wp2_with fail;exact bodyPost_ret (v := .agg #[.slice none 0 0,.slice (some ⟨w.heap.size + 1 + 1,0,none⟩) 1 1]) (results_cell_row rfl _ _ w.heap.size 47 _ (0,0) _ rfl HB.out underlying47 rfl kr) rfl
  ⟨_,[.slice (some ⟨w.heap.size + 1,0,none⟩) 0 0],rfl,⟨H1,fun i hi => by
   have hi0 : i = 0 := by simp at hi; omega
   subst hi0;exact H0⟩,HF⟩
theorem rU (w : World) : Calls prog 88 #[.slice none 0 0] w fun e w' => e = .returned (.slice none 0 0) ∧ w = w' := by
 have hq : ∀ w,(binOp .eql 99 (.slice none 0 0) (.slice none 0 0)).run prog w = .ok (.bool true) w := fun w => by rfl
 go_enter func88,ntmps88;go_wp2_with fail;go_ret;exact ⟨rfl,rfl⟩
theorem iU (B : Nat) (v : Value) (xs : List Int) (w : World) (hn : xs.length ≤ 4096) (hr : ap w B v xs) :
    Calls prog 88 #[v] w fun e w' => ∃ v',e = .returned v' ∧ ap w' w.heap.size v' xs ∧ Fr (fun _ => False) w w' := by
 have hr0 := hr;rcases hr0.2 with ⟨h1,h2⟩ | ⟨g,cap,cur,h1,_⟩
 · have hx : xs = [] := List.eq_nil_of_length_eq_zero h2;subst hx;subst h1;exact (rU w).mono (by rintro e w1 ⟨rfl,rfl⟩; exact ⟨_,rfl,World.ownsRow_nil _ _ _ _,Fr.refl _ _⟩)
 · subst h1;exact rT _ cap B g xs w hn hr rfl
theorem lj (n c B : Nat) (N : Option Addr) (ss : List ByteArray) (w : World) (hn : n ≤ 4096) (hN : n = 0 → N = none ∧ c = 0) (hs : w.ownsRow B 9 1 (.slice N n c) n (ss.map .string)) :
    Calls prog 82 #[.slice N n c] w fun e w' => ∃ V c',e = .returned (.slice V n c') ∧ (n = 0 → V = none ∧ c' = 0) ∧ w'.ownsRow w.heap.size 9 1 (.slice V n c') n (ss.map .string) ∧ Fr (fun _ => False) w w' := by
 have hl : ss.length = n := by have := hs.1; simpa using this
 by_cases h0 : n = 0
 · subst h0;obtain ⟨rfl,rfl⟩ := hN rfl;have he : ss = [] := List.eq_nil_of_length_eq_zero hl;subst he;exact (uU w).mono (by rintro e w1 ⟨rfl,rfl⟩; exact ⟨none,0,rfl,fun _ => ⟨rfl,rfl⟩,World.ownsRow_nil _ _ _ _,Fr.refl _ _⟩)
 · obtain ⟨g,rfl,_,_,_⟩ := ar hs jj;exact (m7 g n c ss w jj jj (fun j hj => bL hs j hj) hl).mono (by rintro e w1 ⟨A,c',rfl,h1,h2⟩; exact ⟨_,c',rfl,fun h => absurd h h0,h1,h2⟩)
def dO (w : World) (m : Nat) (ss : List ByteArray) (rows : List (List Int)) (e : Ending) (w' : World) : Prop :=
 ∃ V vc vr vals,e = .returned (.agg #[.slice V m vc,vr]) ∧ (m = 0 → V = none ∧ vc = 0) ∧ w'.ownsRow w.heap.size 9 1 (.slice V m vc) m (ss.map .string) ∧ ak w' w.heap.size vr vals rows ∧ Fr (fun _ => False) w w'
theorem lk (F : Nat) (C : Array Value) (m vc B B2 : Nat) (V : Option Addr) (vr : Value) (vals : List Value) (rows : List (List Int)) (ss : List ByteArray) (w : World) (hm : m ≤ 4096) (hV : m = 0 → V = none ∧ vc = 0) (hn : rows.length ≤ 4096)
    (hl : ∀ i,i < rows.length → (rows.getD i []).length = m) (hs : w.ownsRow B 9 1 (.slice V m vc) m (ss.map .string)) (hr : ak w B2 vr vals rows)
    (hen : ∀ args w,(callFunc F args).run prog w = .ok (.enter F args) w) (hok : ∀ w1 i,i < rows.length → Fr (fun j => w.heap.size ≤ j) w w1 → Calls prog F (#[.agg #[.slice V m vc,vr],vals.getD i undef] ++ C) w1 (IsB true w1)) :
    Calls prog 36 #[.agg #[.slice V m vc,vr],.func (.func F) #[] C] w (dO w m ss rows) := by
 have HCL := Hd (fun w hs => lj m vc B V ss w hm hV hs);have HS := Hd hs;have HR := Hd hr;have HOK := Hd hok;have HL := Hd hl;obtain ⟨i48,hi48,hz480,hz481,hz482⟩ := info_parts jY;obtain ⟨A,c,hvr⟩ := ad hr.own;subst hvr;clear hs hr hok hl;go_enter func36,ntmps36;go_wp2_with fail;refine (HCL _ ((HS.alloc _).alloc _)).mono ?_;rintro e w1 ⟨V1,vc1,rfl,hV1,hrow1,hf1⟩;have hb0 := Blk.new w 47 #[.slice V m vc,.slice A rows.length c];have hb1 := Blk.new (w.alloc (.cells #[.slice V m vc,.slice A rows.length c] 47)) 47 #[.slice none 0 0,.slice none 0 0];have hz := al1 w (.cells #[.slice V m vc,.slice A rows.length c] 47);have hz2 := k7 w (.cells #[.slice V m vc,.slice A rows.length c] 47) (.cells #[.slice none 0 0,.slice none 0 0] 47);rw [hz] at hb1;have hsz1 := hf1.size;rw [hz2] at hrow1 hsz1;have F1 : Fr (fun j => w.heap.size ≤ j) w (w1.alloc (.cells #[.slice V1 m vc1,.slice none 0 0] 47)) := (((((Fr.refl _ w).alloc _).alloc _).trans hf1 uu)).alloc _;have START := Hd (show ∃ (k : Nat) (vr : Value) (vals : List Value),Value.int .i64 0 = .int .i64 (k : Int) ∧ k ≤ rows.length ∧ Blk (w1.alloc (.cells #[.slice V1 m vc1,.slice none 0 0] 47)) w.heap.size 47 #[.slice V m vc,.slice A rows.length c] ∧ Blk (w1.alloc (.cells #[.slice V1 m vc1,.slice none 0 0] 47)) w1.heap.size 47 #[.slice V1 m vc1,vr] ∧ Blk (w1.alloc (.cells #[.slice V1 m vc1,.slice none 0 0] 47)) (w.heap.size + 1) 47 #[.slice none 0 0,.slice none 0 0] ∧ (w1.alloc (.cells #[.slice V1 m vc1,.slice none 0 0] 47)).ownsRow w.heap.size 9 1 (.slice V1 m vc1) m (ss.map .string) ∧ ak (w1.alloc (.cells #[.slice V1 m vc1,.slice none 0 0] 47)) w.heap.size vr vals (rows.take k) ∧ Fr (fun j => w.heap.size ≤ j) w (w1.alloc (.cells #[.slice V1 m vc1,.slice none 0 0] 47)) from
  ⟨0,.slice none 0 0,[],rfl,Nat.zero_le _,((hb0.alloc _).fr hf1 id).alloc _,Blk.new _ _ _,(hb1.fr hf1 id).alloc _,(ai hrow1 jj).alloc _,⟨World.ownsRow_nil _ _ _ _,fun i hi => absurd hi (by simp)⟩,F1⟩)
 have c0 : (w1.alloc (.cells #[.slice V1 m vc1,.slice none 0 0] 47)).cell? ⟨w.heap.size,1,none⟩ = some (.slice A rows.length c) := (((hb0.alloc _).fr hf1 id).alloc _).cell 1;have c0' : w1.cell? ⟨w.heap.size,1,none⟩ = some (.slice A rows.length c) := ((hb0.alloc _).fr hf1 id).cell 1;clear hb0 hb1 F1 hrow1 hf1 hz hz2;go_wp2_with fail
 go_loopw [7,15] (fun _ iv wr => ∃ (k : Nat) (vr : Value) (vals : List Value),iv = .int .i64 (k : Int) ∧ k ≤ rows.length ∧ Blk wr w.heap.size 47 #[.slice V m vc,.slice A rows.length c] ∧ Blk wr w1.heap.size 47 #[.slice V1 m vc1,vr] ∧ Blk wr (w.heap.size + 1) 47 #[.slice none 0 0,.slice none 0 0] ∧ wr.ownsRow w.heap.size 9 1 (.slice V1 m vc1) m (ss.map .string) ∧ ak wr w.heap.size vr vals (rows.take k) ∧ Fr (fun j => w.heap.size ≤ j) w wr) (fun _ iv _ => rows.length - (intOf iv).toNat)
 case atStart => exact START.out
 case round =>
  obtain ⟨k,vr,vals2,rfl,hk,htb,hob,hcb,hvr,hra,hf⟩ := hrel;have HTB := Hd htb;have HOB := Hd hob;have HCB := Hd hcb;have HVR := Hd hvr;have HRA := Hd hra;have HF := Hd hf;have hrr := HR.fr hf (fun j hj h => absurd (HR.own.lt j hj).2 jj) (fun i hi j hj h => absurd ((HR.each i hi).lt j hj).2 jj);by_cases hlt : k < rows.length
  · have hlt' : (k : Int) < (rows.length : Int) := jj;obtain ⟨ga,rfl,_,_,_⟩ := ar hrr.own jj;have hck : wr.cell? ⟨ga,k,none⟩ = some (vals.getD k undef) := by
     rw [World.ownsRow.cellAt hrr.own k jj,List.getD_eq_getElem?_getD,List.getElem?_eq_getElem (by have := hrr.len; omega)]; rfl
    have hek := hrr.each k hlt;obtain ⟨A2,c2,hv2⟩ := ad hek;have HOKK := Hd (HOK.out wr k hlt hf);have t0 := htb.c0;have t1 := htb.c1;rw [hv2] at hck hek HOKK;rw [HL.out k hlt] at hck hek HOKK;have HX := Hd (show rows.take (k + 1) = rows.take k ++ [rows.getD k []] by rw [List.take_add_one,List.getD_eq_getElem?_getD,List.getElem?_eq_getElem jj]; rfl);have hlk := HL.out k hlt;generalize rows.getD k [] = rk at *;have HLK := Hd hlk;have HEK := Hd hek;obtain ⟨A3,c3,hv3⟩ := ad hra.own;subst hv3;have hlen3 : (rows.take k).length = k := by simp; omega
    rw [hlen3] at HOB HRA;clear hrr hek hcb hob htb hvr hra hf hv2 hlk;go_wp2_with fail;refine HOKK.mono ?_;rintro e w2 ⟨rfl,hf2⟩;have b1 := (HOB.fr hf2 id).cell 1;have HCLR := Hd (fun wy hr => iU B2 (.slice A2 m c2) rk wy (by rw [HLK.out]; exact hm) hr);have HF2D := Hd (show Fr (fun _ => False) wr w2.drew from hf2.drew);have HRA2 := Hd (HRA.frF HF2D);have HOB2 := Hd (HOB.fr HF2D.out id);have hne := ac HRA.own HOB.out de;have hlto := HOB.lt;have hsz2 := hf2.size;have hb1 : w.heap.size ≤ w2.heap.size := jj;clear hf2;go_wp2_with fail
    go_region_law (first
     | (go_simp; go_at_call 88; refine (HCLR _ (HEK.fr HF2D.out ii)).mono ?_; rintro e w3 ⟨v3,rfl,hrow3,hf3⟩; obtain ⟨A4,c4,hv4⟩ := ad hrow3; subst hv4; have b2 := (HOB2.fr hf3 id).cell 1; have b2f := (HOB2.fr hf3 id).frozen 1; have HRA3 := Hd (HRA2.frF hf3); have HOB3 := Hd (HOB2.fr hf3 id); have hlo3 := HOB3.lt; have hsz3 := hf3.size; rw [show w2.drew.heap.size = w2.heap.size from rfl] at hsz3)
     | (refine step_append_lies _ (by rfl) _ _ 45 (by rfl) w.heap.size 99 i48 _ 1 24 underlying45 hi48 hz480 hz481 hz482 rfl de (.slice A3 k c3) k vals2 (by rfl) (by have h := HRA3.own; rw [hlen3] at h; exact h.alloc _) ⟨w3.heap.size,0,none⟩ 1 1 [.slice A4 rk.length c4] (by rfl) rfl (by exact World.news_of_block (heap_alloc_new w3 _)) (by intro u hu; rw [List.mem_singleton] at hu; rw [hu]; rfl) de (by unfold maxLen; omega) jj (by simp; omega) (w3.heap.size + 1) (by simp) ?_; intro g cap w6 hown6 hgr6 hor6 hlt6; have hbl6 : Blk w6 w1.heap.size 47 _ := Blk.fr (HOB3.alloc _) (Fr.of_grown hgr6) hne; have d1 := hbl6.cell 1; have e1 := hbl6.frozen 1))
    all_goals
     have F6 : Fr (fun j => (Value.slice A3 k c3).ownBlock = some j) w3 w6 := ((Fr.refl _ w3).alloc _).trans (Fr.of_grown hgr6) ii;have F3 : Fr (fun _ => False) wr w3 := HF2D.trans' hf3;have FS : Fr (fun j => j = w1.heap.size) w6 (w6.setCell ⟨w1.heap.size,1,none⟩ (.slice (some ⟨g,0,none⟩) (k + 1) cap)) := (Fr.refl (fun j => j = w1.heap.size) w6).setCell ⟨w1.heap.size,1,none⟩ (fun _ => rfl) _;have O7 := Hd (show Blk (w6.setCell ⟨w1.heap.size,1,none⟩ (.slice (some ⟨g,0,none⟩) (k + 1) cap)) w1.heap.size 47 #[.slice V1 m vc1,.slice (some ⟨g,0,none⟩) (k + 1) cap] from hbl6.set_ 1 _);have hr6 := HRA3.push hrow3 (by rw [show w2.drew.heap.size = w2.heap.size from rfl]; exact hb1) (.cells #[.slice A4 rk.length c4] 99) (by rw [hlen3]; exact hown6) hgr6;rw [← HX.out] at hr6;have R7 := Hd (hr6.frB hbl6 de de FS);have T3 := HTB.fr F3 id;have C3 := HCB.fr F3 id;have V3 := aa HVR.out F3 ii;have hT := ac HRA3.own T3 de;have hC := ac HRA3.own C3 de;have T7 := Hd ((T3.fr F6 (fun h => hT h)).fr FS (fun h => absurd h jj));have C7 := Hd ((C3.fr F6 (fun h => hC h)).fr FS (fun h => absurd h jj));have V7 := Hd (aa (aa V3 F6 (fun j hj h => aw HRA3.own V3 de h hj)) FS (fun j hj h => ac V3 HOB3.out de (by rw [hj,h])));have F7 := Hd (((HF.trans F3 uu).trans F6 (fun j _ h => (HRA3.own.lt j h).1)).trans FS (fun j _ h => by omega));clear F6 F3 FS hr6 T3 C3 V3 hT hC hbl6 d1 e1 hown6 hgr6 hor6 hlt6 hrow3 hf3 b2 b2f b1 hne;go_wp2_with fail;go_roundw
     case rel => exact ⟨k + 1,_,_,by go_num,hlt,T7,O7,C7,V7,R7,F7⟩
     case measure => simp only [intOf]; omega
  · have hlt' : ¬ (k : Int) < (rows.length : Int) := jj;have hkn : k = rows.length := jj;subst hkn;rw [List.take_length] at HRA;obtain ⟨Ar,cr,hvr2⟩ := ad hra.own;subst hvr2;rw [List.take_length] at HOB HRA;have t0 := HOB.c0;have t1 := HOB.c1;have f0 := HCB.frozen 0;have cc0 := HCB.c0;have hb2 := HCB.set_ 0 (.slice V1 m vc1);have cc1 := hb2.c1;have f12 : (wr.setCell ⟨w.heap.size + 1,0,none⟩ (.slice V1 m vc1)).frozen? ⟨w.heap.size + 1,1,none⟩ = false := hb2.frozen 1;have hb3 : Blk ((wr.setCell ⟨w.heap.size + 1,0,none⟩ (.slice V1 m vc1)).setCell ⟨w.heap.size + 1,1,none⟩ (.slice Ar rows.length cr)) (w.heap.size + 1) 47 #[.slice V1 m vc1,.slice Ar rows.length cr] := hb2.set_ 1 (.slice Ar rows.length cr);have FS : Fr (fun j => j = w.heap.size + 1) wr ((wr.setCell ⟨w.heap.size + 1,0,none⟩ (.slice V1 m vc1)).setCell ⟨w.heap.size + 1,1,none⟩ (.slice Ar rows.length cr)) := ((Fr.refl (fun j => j = w.heap.size + 1) wr).setCell ⟨w.heap.size + 1,0,none⟩ (fun _ => rfl) _).setCell ⟨w.heap.size + 1,1,none⟩ (fun _ => rfl) _;have HB3 := Hd hb3;have HRA3 := Hd (HRA.frB HCB.out de de FS);have HVR3 := Hd (aa HVR.out FS (fun j hj e => ac HVR.out HCB.out de (by rw [hj,e])));have HF3 := Hd ((HF.trans FS (fun j _ h => by omega)).shut (Nat.le_refl _));clear hrr hb2 hb3 FS hob hcb htb hvr hra hf;go_wp2_with fail;exact bodyPost_ret (v := .agg #[.slice V1 m vc1,.slice Ar rows.length cr]) (results_cell_row rfl _ _ (w.heap.size + 1) 47 _ (0,0) _ rfl HB3.out underlying47 rfl kr) rfl ⟨V1,vc1,.slice Ar rows.length cr,vals2,rfl,hV1,HVR3,HRA3,HF3⟩
theorem wR (a b : ByteArray) : (a == b) = decide (a = b) := by
 have h := beq_toListBytes a b;by_cases e : a = b
 · subst e;rw [h,decide_eq_true rfl];simp
 · rw [h,decide_eq_false e];cases hh : (a.toList == b.toList) with
   | false => rfl
   | true => exact absurd (bytes_inj.1 (eq_of_beq hh)) e
def d7 (es : List MapEntry) : Prop := ∀ e ∈ es,∃ s,e.key = .string s
def bw : List MapEntry → ByteArray → Nat → Option (Nat × Value)
 | [],_,_ => none
 | e :: es,k,i => match e.key with
  | .string s => if k = s then some (i,e.val) else bw es k (i + 1)
  | _ => none
def m9 (es : List MapEntry) (k : ByteArray) : Option Value := (bw es k 0).map (·.2)
theorem qh (k : ByteArray) : ∀ (es : List MapEntry) (i : Nat),d7 es → Instr.findNow .string (.string k) es i = some (bw es k i)
 | [],_,_ => rfl
 | e :: es,i,h => by
  obtain ⟨s,hs⟩ := h e (List.mem_cons_self ..);have ih := qh k es (i + 1) (fun x hx => h x (List.mem_cons_of_mem _ hx));unfold Instr.findNow bw;rw [hs];simp only [Instr.sameNow,wR];by_cases hk : k = s
  · subst hk;simp
  · rw [decide_eq_false hk,if_neg hk];exact ih
theorem ko (k : ByteArray) : ∀ (es : List MapEntry) (i : Nat),bw es k (i + 1) = (bw es k i).map fun p => (p.1 + 1,p.2)
 | [],_ => rfl
 | e :: es,i => by
  unfold bw;cases e.key with
  | string s =>
   simp only;by_cases hk : k = s
   · rw [if_pos hk,if_pos hk]; rfl
   · rw [if_neg hk,if_neg hk]; exact ko k es (i + 1)
  | _ => rfl
theorem lm (k x : ByteArray) (v : Value) (c : Nat) : ∀ (es : List MapEntry) (i : Nat),d7 es → bw es k i = none → (bw (es ++ [{ key := .string k,val := v,born := c }]) x i).map (·.2) = if x = k then some v else (bw es x i).map (·.2)
 | [],i,_,_ => by
  show (bw [{ key := .string k,val := v,born := c }] x i).map (·.2) = _;unfold bw;simp only;by_cases hx : x = k
  · rw [if_pos hx,if_pos hx]; rfl
  · rw [if_neg hx,if_neg hx]; rfl
 | e :: es,i,h,hn => by
  obtain ⟨s,hs⟩ := h e (List.mem_cons_self ..);have hsk : d7 es := fun x hx => h x (List.mem_cons_of_mem _ hx);unfold bw at hn;rw [hs] at hn;simp only at hn;by_cases hk : k = s
  · rw [if_pos hk] at hn; cases hn
  · rw [if_neg hk] at hn;have ih := lm k x v c es (i + 1) hsk hn;show (bw (e :: (es ++ [_])) x i).map (·.2) = _;unfold bw;rw [hs];simp only;by_cases hx : x = s
    · rw [if_pos hx,if_pos hx,if_neg (fun e => hk (e.symm.trans hx))]
    · rw [if_neg hx,if_neg hx];exact ih
theorem nd (k x : ByteArray) (v : Value) : ∀ (es : List MapEntry) (i j : Nat) (u : Value),d7 es → bw es k i = some (i + j,u) → (bw (es.modify j fun e => { e with key := .string k,val := v }) x i).map (·.2) = if x = k then some v else (bw es x i).map (·.2)
 | [],i,j,u,_,hn => by cases hn
 | e :: es,i,j,u,h,hn => by
  obtain ⟨s,hs⟩ := h e (List.mem_cons_self ..);have hsk : d7 es := fun x hx => h x (List.mem_cons_of_mem _ hx);unfold bw at hn;rw [hs] at hn;simp only at hn;by_cases hk : k = s
  · rw [if_pos hk] at hn;have hj : j = 0 := by
     have h2 := congrArg Prod.fst (Option.some.inj hn);simp only at h2;omega
    subst hj hk;show (bw ({ e with key := .string k,val := v } :: es) x i).map (·.2) = _;unfold bw;rw [hs];simp only;by_cases hx : x = k
    · rw [if_pos hx,if_pos hx]; rfl
    · rw [if_neg hx,if_neg hx,if_neg hx]
  · rw [if_neg hk] at hn;cases j with
    | zero =>
     have h2 := ko k es i;rw [hn] at h2;cases h3 : bw es k i with
     | none => rw [h3] at h2; cases h2
     | some p =>
      rw [h3] at h2;have h4 := congrArg Prod.fst (Option.some.inj h2);simp only at h4;have h5 := findS_ge k es i p h3;omega
    | succ j =>
     have ih := nd k x v es (i + 1) j u hsk (by rw [hn]; rw [show i + 1 + j = i + (j + 1) by omega]);show (bw (e :: es.modify j _) x i).map (·.2) = _;unfold bw;rw [hs];simp only;by_cases hx : x = s
     · rw [if_pos hx,if_pos hx,if_neg (fun e => hk (e.symm.trans hx))]
     · rw [if_neg hx,if_neg hx];exact ih
where
 findS_ge (k : ByteArray) : ∀ (es : List MapEntry) (i : Nat) (p : Nat × Value),bw es k i = some p → i ≤ p.1
  | [],i,p,h => by cases h
  | e :: es,i,p,h => by
   unfold bw at h;cases he : e.key with
   | string s =>
    rw [he] at h;simp only at h;by_cases hk : k = s
    · rw [if_pos hk] at h;have := congrArg Prod.fst (Option.some.inj h);simp only at this;omega
    · rw [if_neg hk] at h;have := findS_ge k es (i + 1) p h;omega
   | _ => rw [he] at h; cases h
theorem d7.push {es : List MapEntry} (h : d7 es) (k : ByteArray) (v : Value) (c : Nat) : d7 (es ++ [{ key := .string k,val := v,born := c }]) := by
 intro e he;rcases List.mem_append.1 he with h1 | h1
 · exact h e h1
 · rw [List.mem_singleton] at h1;subst h1;exact ⟨k,rfl⟩
theorem d7.mod : ∀ {es : List MapEntry} (j : Nat) (k : ByteArray) (v : Value),d7 es → d7 (es.modify j fun e => { e with key := .string k,val := v })
 | [],j,k,v,_ => by
  intro e he;cases j <;> cases he
 | x :: es,0,k,v,h => by
  intro e he;rcases List.mem_cons.1 (show e ∈ { x with key := .string k,val := v } :: es from he) with rfl | h1
  · exact ⟨k,rfl⟩
  · exact h e (List.mem_cons_of_mem _ h1)
 | x :: es,j + 1,k,v,h => by
  intro e he;rcases List.mem_cons.1 (show e ∈ x :: es.modify j _ from he) with rfl | h1
  · exact h _ (List.mem_cons_self ..)
  · exact d7.mod j k v (fun y hy => h y (List.mem_cons_of_mem _ hy)) e h1
def St (es : Array MapEntry) (clock : Nat) : Prop := (∀ (i : Nat) (e : MapEntry),es[i]? = some e → e.born < clock) ∧ ∀ (i j : Nat) (e e' : MapEntry),es[i]? = some e → es[j]? = some e' → e.born = e'.born → i = j
theorem St.push {es : Array MapEntry} (h : St es clock) (k v : Value) : St (es.push { key := k,val := v,born := clock }) (clock + 1) := by
 have hp : ∀ (i : Nat) (e : MapEntry),(es.push { key := k,val := v,born := clock })[i]? = some e → es[i]? = some e ∨ (i = es.size ∧ e.born = clock) := by
  intro i e he;rw [Array.getElem?_push] at he;split at he
  · rename_i hi;injection he with he;exact .inr ⟨hi,by rw [← he]⟩
  · exact .inl he
 refine ⟨fun i e he => ?_,fun i j e e' he he' hb => ?_⟩
 · rcases hp i e he with h1 | ⟨_,h1⟩
   · exact Nat.lt_succ_of_lt (h.1 i e h1)
   · omega
 · rcases hp i e he with h1 | ⟨h0,h1⟩ <;> rcases hp j e' he' with h2 | ⟨h3,h2⟩
   · exact h.2 i j e e' h1 h2 hb
   · have := h.1 i e h1; omega
   · have := h.1 j e' h2; omega
   · omega
theorem St.mod {es : Array MapEntry} (h : St es clock) (j : Nat) (f : MapEntry → MapEntry) (hf : ∀ e,(f e).born = e.born) : St (es.modify j f) clock := by
 have hp : ∀ (i : Nat) (e : MapEntry),(es.modify j f)[i]? = some e → ∃ e0,es[i]? = some e0 ∧ e.born = e0.born := by
  intro i e he;rw [Array.getElem?_modify] at he;split at he
  · obtain ⟨e0,h0,rfl⟩ := Option.map_eq_some_iff.1 he;exact ⟨e0,h0,hf e0⟩
  · exact ⟨e,he,rfl⟩
 refine ⟨fun i e he => ?_,fun i j2 e e' he he' hb => ?_⟩
 · obtain ⟨e0,h0,h1⟩ := hp i e he;rw [h1];exact h.1 i e0 h0
 · obtain ⟨e0,h0,h1⟩ := hp i e he;obtain ⟨e2,h2,h3⟩ := hp j2 e' he';exact h.2 i j2 e0 e2 h0 h2 (by rw [← h1,← h3,hb])
def eJ (w : World) (r : Nat) (f : ByteArray → Option Value) : Prop := ∃ (es : Array MapEntry) (clock : Nat),w.heap[r]? = some (.map es clock) ∧ d7 es.toList ∧ (∀ k,m9 es.toList k = f k) ∧ St es clock
theorem eJ.lt (h : eJ w r f) : r < w.heap.size := by
 obtain ⟨es,clock,hg,_⟩ := h;exact (Array.getElem?_eq_some_iff.1 hg).1
theorem eJ.fr (h : eJ w r f) (hf : Fr S w w') (hn : ¬ S r) : eJ w' r f := by
 have hl := h.lt;obtain ⟨es,clock,hg,he⟩ := h;exact ⟨es,clock,(hf.block r hl hn).trans hg,he⟩
theorem eJ.new (w : World) : eJ (w.alloc (.map #[] 0)) w.heap.size (fun _ => none) :=
 ⟨#[],0,heap_alloc_new w _,(fun e he => by cases he),fun _ => rfl,fun i e he => by simp at he,fun i j e e' he => by simp at he⟩
theorem eJ.ne_blk (h : eJ w r f) (hb : Blk w g t cs) : r ≠ g := by
 rintro rfl;obtain ⟨es,clock,hg,_⟩ := h;have hb2 : w.heap[r]? = some (.cells cs t (0,0)) := hb;rw [hg] at hb2;cases hb2
theorem eJ.ne_row (h : eJ w r f) {B e size n : Nat} {v : Value} {xs : List Value} (hr : w.ownsRow B e size v n xs) : v.ownBlock ≠ some r := by
 intro hv;rcases hr.2 with ⟨rfl,_⟩ | ⟨g,cap,cur,rfl,_,hh,_⟩
 · cases hv
 · have : g = r := by simpa [Value.ownBlock] using hv
   subst this;exact h.ne_blk (show Blk w g e cur from hh) rfl
theorem oH (e : Bool) (k : ByteArray) (w : World) : (Instr.checkKey e 10000 9 (.string k)).run prog w = .ok () w := kr
theorem jZ (k : ByteArray) (w : World) (es : List MapEntry) (h : d7 es) : (Instr.findKey 9 (.string k) es).run prog w = .ok (bw es k 0) w := by
 simp only [Instr.findKey,Sem.run_bind,run_underlying underlying9,Result.andThen_ok,qh k es 0 h];rfl
theorem ew (h : eJ w r f) (T e : TypeId) (hu : prog.underlying T = some (.map 9 e)) (z : Value) (hz : (zeroValue e).run prog w = .ok z w) (k : ByteArray) :
    (Instr.lookup T (.map (some r)) (.string k) false).run prog w = .ok ((f k).getD z) w := by
 obtain ⟨es,clock,hg,hk,hf,_⟩ := h;have hget : (getObj r).run prog w = .ok (.map es clock) w := by simp [getObj,Sem.run,hg]
 have h1 := hf k;unfold m9 at h1;simp only [Instr.lookup,Sem.run_bind,run_underlying hu,Result.andThen_ok,hget,Sem.run_pure,oH,jZ k w es.toList hk];rw [← h1];cases bw es.toList k 0 with
 | none => simp [hz]
 | some p => simp
theorem ln (k : ByteArray) : ∀ (es : List MapEntry) (i j : Nat) (u : Value),d7 es → bw es k i = some (j,u) → i ≤ j ∧ ∃ e0,es[j - i]? = some e0 ∧ e0.key = .string k
 | [],i,j,u,_,h => by cases h
 | e :: es,i,j,u,hs,h => by
  unfold bw at h;cases he : e.key with
  | string s =>
   rw [he] at h;simp only at h;by_cases hk : k = s
   · rw [if_pos hk] at h;have := congrArg Prod.fst (Option.some.inj h);simp only at this;subst this hk;exact ⟨Nat.le_refl _,e,by simp,he⟩
   · rw [if_neg hk] at h;obtain ⟨h1,e0,h2,h3⟩ := ln k es (i + 1) j u (fun x hx => hs x (List.mem_cons_of_mem _ hx)) h;refine ⟨by omega,e0,?_,h3⟩;rw [show j - i = (j - (i + 1)) + 1 by omega,List.getElem?_cons_succ];exact h2
  | _ => rw [he] at h; cases h
theorem uY (k : ByteArray) (l : List MapEntry) (j : Nat) (u : Value) (hs : d7 l) (h : bw l k 0 = some (j,u)) (es : Array MapEntry) (hl : es.toList = l) : ∃ e0,es[j]? = some e0 ∧ e0.key = .string k := by
 obtain ⟨_,e0,h2,h3⟩ := ln k l 0 j u hs h;refine ⟨e0,?_,h3⟩;rw [Nat.sub_zero,← hl] at h2;simpa using h2
theorem eo (h : eJ w r f) (T e : TypeId) (hu : prog.underlying T = some (.map 9 e)) (k : ByteArray) (v : Value) :
    ∃ w',(Instr.mapUpdate T (.map (some r)) (.string k) v).run prog w = .ok () w' ∧ eJ w' r (fun x => if x = k then some v else f x) ∧ Fr (fun j => j = r) w w' := by
 have hlt := h.lt;obtain ⟨es,clock,hg,hk,hf,hst0⟩ := h;have hget : (getObj r).run prog w = .ok (.map es clock) w := by simp [getObj,Sem.run,hg]
 have hg2 : w.heap[r] = Obj.map es clock := by
  rw [Array.getElem?_eq_getElem hlt] at hg;exact Option.some.inj hg
 have hfr : ∀ o,Fr (fun j => j = r) w (World.mapSet w r o) := fun o => ⟨rfl,rfl,rfl,by simp [World.mapSet],fun k hk hne => by
  show (w.heap.setIfInBounds r _)[k]? = _;rw [Array.getElem?_setIfInBounds_ne (fun e => hne e.symm)]⟩
 cases h1 : bw es.toList k 0 with
 | none =>
  refine ⟨World.mapSet w r (.map (es.push { key := .string k,val := v,born := clock }) (clock + 1)),?_,⟨es.push { key := .string k,val := v,born := clock },clock + 1,by simp [World.mapSet,hlt],?_,fun x => ?_,hst0.push _ _⟩,hfr _⟩
  · simp only [Instr.mapUpdate,Sem.run_bind,run_underlying hu,Result.andThen_ok,hget,oH,jZ k w es.toList hk,h1];simp [setObj,Sem.run,hlt,World.mapSet,hg2]
  · rw [Array.toList_push]; exact hk.push k v clock
  · unfold m9;rw [Array.toList_push,lm k x v clock es.toList 0 hk h1];have h2 := hf x;unfold m9 at h2;rw [h2]
 | some p =>
  obtain ⟨j,u⟩ := p;have hj : ∃ e0,es[j]? = some e0 ∧ e0.key = .string k := uY k es.toList j u hk h1 es rfl;obtain ⟨e0,he0,hek⟩ := hj;have hst : (Instr.keyThatStays (.string k) (.string k)).run prog w = .ok (.string k) w := by
   have : Instr.sameBits 10000 (.string k) (.string k) = true := by
    show (k == k) = true;rw [wR];simp
   simp [Instr.keyThatStays,this]
  refine ⟨World.mapSet w r (.map (es.modify j fun e => { e with key := .string k,val := v }) clock),?_,⟨es.modify j fun e => { e with key := .string k,val := v },clock,by simp [World.mapSet,hlt],?_,fun x => ?_,hst0.mod _ _ (fun _ => rfl)⟩,hfr _⟩
  · simp only [Instr.mapUpdate,Sem.run_bind,run_underlying hu,Result.andThen_ok,hget,oH,jZ k w es.toList hk,h1,he0,Option.map_some,Option.getD_some,hek,hst];simp [setObj,Sem.run,hlt,World.mapSet,hg2]
  · rw [Array.toList_modify]; exact d7.mod j k v hk
  · unfold m9;rw [Array.toList_modify,nd k x v es.toList 0 j u hk (by rw [h1,Nat.zero_add])];have h2 := hf x;unfold m9 at h2;rw [h2]
def oI (w : World) (r : Nat) (k : ByteArray) (b : Nat) : Prop := ∃ (es : Array MapEntry) (clock j : Nat) (u : Value) (e0 : MapEntry),w.heap[r]? = some (.map es clock) ∧ bw es.toList k 0 = some (j,u) ∧ es[j]? = some e0 ∧ e0.born = b
theorem oI.fr {b : Nat} {k : ByteArray} (h : oI w r k b) (hf : Fr S w w') (hn : ¬ S r) : oI w' r k b := by
 obtain ⟨es,clock,j,u,e0,hg,h1⟩ := h;exact ⟨es,clock,j,u,e0,(hf.block r (Array.getElem?_eq_some_iff.1 hg).1 hn).trans hg,h1⟩
def bn (rows : List (List Int)) (keep : Nat → Bool) : Nat → List (List Int)
 | 0 => []
 | k + 1 => if keep k = true then bn rows keep k ++ [rows.getD k []] else bn rows keep k
theorem gl (rows : List (List Int)) (keep : Nat → Bool) (k : Nat) : bn rows keep (k + 1) = if keep k = true then bn rows keep k ++ [rows.getD k []] else bn rows keep k := rfl
theorem nf (rows : List (List Int)) (keep : Nat → Bool) : ∀ k,(bn rows keep k).length ≤ k
 | 0 => Nat.le_refl _
 | k + 1 => by
  have ih := nf rows keep k;rw [gl];split
  · rw [List.length_append,List.length_singleton]; omega
  · omega
def fM (mb : Nat) (I : Nat → World → Prop) (keep : Nat → Bool) (i : Nat) (w1 : World) (e : Ending) (w2 : World) : Prop :=
 e = .returned (.bool (keep i)) ∧ I (i + 1) w2 ∧ Fr (fun j => j = mb) w1 w2
def qi (mb : Nat) (w : World) (m : Nat) (ss : List ByteArray) (rows : List (List Int)) (e : Ending) (w' : World) : Prop :=
 ∃ V vc vr vals,e = .returned (.agg #[.slice V m vc,vr]) ∧ (m = 0 → V = none ∧ vc = 0) ∧ w'.ownsRow w.heap.size 9 1 (.slice V m vc) m (ss.map .string) ∧ ak w' w.heap.size vr vals rows ∧ Fr (fun j => j = mb) w w'
theorem tR (mb : Nat) (I : Nat → World → Prop) (keep : Nat → Bool) (F : Nat) (C : Array Value) (m vc B B2 : Nat) (V : Option Addr) (vr : Value) (vals : List Value) (rows : List (List Int)) (ss : List ByteArray) (w : World) (hm : m ≤ 4096) (hV : m = 0 → V = none ∧ vc = 0) (hn : rows.length ≤ 4096)
    (hl : ∀ i,i < rows.length → (rows.getD i []).length = m) (hs : w.ownsRow B 9 1 (.slice V m vc) m (ss.map .string)) (hr : ak w B2 vr vals rows)
    (hen : ∀ args w,(callFunc F args).run prog w = .ok (.enter F args) w) (hmap : ∃ f,eJ w mb f) (hI0 : I 0 w) (hIk : ∀ k w1 w2,w.heap.size ≤ w1.heap.size → I k w1 → Fr (fun j => w.heap.size ≤ j) w1 w2 → I k w2) (hok : ∀ w1 i,i < rows.length → Fr (fun j => w.heap.size ≤ j ∨ j = mb) w w1 → I i w1 → Calls prog F (#[.agg #[.slice V m vc,vr],vals.getD i undef] ++ C) w1 (fM mb I keep i w1)) :
    Calls prog 36 #[.agg #[.slice V m vc,vr],.func (.func F) #[] C] w (qi mb w m ss (bn rows keep rows.length)) := by
 obtain ⟨f0,hm0⟩ := hmap;have hmb := hm0.lt;have HNR := Hd (fun j (hj : vr.ownBlock = some j) (e : j = mb) => hm0.ne_row hr.own (by rw [hj,e]));have HNE := Hd (fun i (hi : i < rows.length) j (hj : (vals.getD i undef).ownBlock = some j) (e : j = mb) => hm0.ne_row (hr.each i hi) (by rw [hj,e]));have HIK := Hd hIk;have HI0 := Hd hI0;clear hm0 hIk hI0;have HCL := Hd (fun w hs => lj m vc B V ss w hm hV hs);have HS := Hd hs;have HR := Hd hr;have HOK := Hd hok;have HL := Hd hl;obtain ⟨i48,hi48,hz480,hz481,hz482⟩ := info_parts jY;obtain ⟨A,c,hvr⟩ := ad hr.own;subst hvr;clear hs hr hok hl;go_enter func36,ntmps36;go_wp2_with fail;refine (HCL _ ((HS.alloc _).alloc _)).mono ?_;rintro e w1 ⟨V1,vc1,rfl,hV1,hrow1,hf1⟩;have hb0 := Blk.new w 47 #[.slice V m vc,.slice A rows.length c];have hb1 := Blk.new (w.alloc (.cells #[.slice V m vc,.slice A rows.length c] 47)) 47 #[.slice none 0 0,.slice none 0 0];have hz := al1 w (.cells #[.slice V m vc,.slice A rows.length c] 47);have hz2 := k7 w (.cells #[.slice V m vc,.slice A rows.length c] 47) (.cells #[.slice none 0 0,.slice none 0 0] 47);rw [hz] at hb1;have hsz1 := hf1.size;rw [hz2] at hrow1 hsz1;have F1 : Fr (fun j => w.heap.size ≤ j) w (w1.alloc (.cells #[.slice V1 m vc1,.slice none 0 0] 47)) := (((((Fr.refl _ w).alloc _).alloc _).trans hf1 uu)).alloc _;have START := Hd (show ∃ (k : Nat) (vr : Value) (vals : List Value),Value.int .i64 0 = .int .i64 (k : Int) ∧ k ≤ rows.length ∧ Blk (w1.alloc (.cells #[.slice V1 m vc1,.slice none 0 0] 47)) w.heap.size 47 #[.slice V m vc,.slice A rows.length c] ∧ Blk (w1.alloc (.cells #[.slice V1 m vc1,.slice none 0 0] 47)) w1.heap.size 47 #[.slice V1 m vc1,vr] ∧ Blk (w1.alloc (.cells #[.slice V1 m vc1,.slice none 0 0] 47)) (w.heap.size + 1) 47 #[.slice none 0 0,.slice none 0 0] ∧ (w1.alloc (.cells #[.slice V1 m vc1,.slice none 0 0] 47)).ownsRow w.heap.size 9 1 (.slice V1 m vc1) m (ss.map .string) ∧ ak (w1.alloc (.cells #[.slice V1 m vc1,.slice none 0 0] 47)) w.heap.size vr vals (bn rows keep k) ∧ I k (w1.alloc (.cells #[.slice V1 m vc1,.slice none 0 0] 47)) ∧ Fr (fun j => w.heap.size ≤ j ∨ j = mb) w (w1.alloc (.cells #[.slice V1 m vc1,.slice none 0 0] 47)) from
  ⟨0,.slice none 0 0,[],rfl,Nat.zero_le _,((hb0.alloc _).fr hf1 id).alloc _,Blk.new _ _ _,(hb1.fr hf1 id).alloc _,(ai hrow1 jj).alloc _,⟨World.ownsRow_nil _ _ _ _,fun i hi => absurd hi (by simp [bn])⟩,HIK.out 0 w _ (Nat.le_refl _) HI0.out F1,F1.mono (fun _ _ h => .inl h)⟩)
 have c0 : (w1.alloc (.cells #[.slice V1 m vc1,.slice none 0 0] 47)).cell? ⟨w.heap.size,1,none⟩ = some (.slice A rows.length c) := (((hb0.alloc _).fr hf1 id).alloc _).cell 1;have c0' : w1.cell? ⟨w.heap.size,1,none⟩ = some (.slice A rows.length c) := ((hb0.alloc _).fr hf1 id).cell 1;clear hb0 hb1 F1 hrow1 hf1 hz hz2;go_wp2_with fail
 go_loopw [7,15] (fun _ iv wr => ∃ (k : Nat) (vr : Value) (vals : List Value),iv = .int .i64 (k : Int) ∧ k ≤ rows.length ∧ Blk wr w.heap.size 47 #[.slice V m vc,.slice A rows.length c] ∧ Blk wr w1.heap.size 47 #[.slice V1 m vc1,vr] ∧ Blk wr (w.heap.size + 1) 47 #[.slice none 0 0,.slice none 0 0] ∧ wr.ownsRow w.heap.size 9 1 (.slice V1 m vc1) m (ss.map .string) ∧ ak wr w.heap.size vr vals (bn rows keep k) ∧ I k wr ∧ Fr (fun j => w.heap.size ≤ j ∨ j = mb) w wr) (fun _ iv _ => rows.length - (intOf iv).toNat)
 case atStart => exact START.out
 case round =>
  obtain ⟨k,vr,vals2,rfl,hk,htb,hob,hcb,hvr,hra,hik,hf⟩ := hrel;have HIKK := Hd hik;have HTB := Hd htb;have HOB := Hd hob;have HCB := Hd hcb;have HVR := Hd hvr;have HRA := Hd hra;have HF := Hd hf;have hrr := HR.fr hf (fun j hj h => h.elim (fun h => absurd (HR.own.lt j hj).2 jj) (HNR.out j hj)) (fun i hi j hj h => h.elim (fun h => absurd ((HR.each i hi).lt j hj).2 jj) (HNE.out i hi j hj));by_cases hlt : k < rows.length
  · have hlt' : (k : Int) < (rows.length : Int) := jj;obtain ⟨ga,rfl,_,_,_⟩ := ar hrr.own jj;have hck : wr.cell? ⟨ga,k,none⟩ = some (vals.getD k undef) := by
     rw [World.ownsRow.cellAt hrr.own k jj,List.getD_eq_getElem?_getD,List.getElem?_eq_getElem (by have := hrr.len; omega)]; rfl
    have hek := hrr.each k hlt;obtain ⟨A2,c2,hv2⟩ := ad hek;have HOKK := Hd (HOK.out wr k hlt hf hik);unfold fM at HOKK;have hne2 := HNE.out k hlt;have t0 := htb.c0;have t1 := htb.c1;rw [hv2] at hck hek HOKK hne2;rw [HL.out k hlt] at hck hek HOKK hne2;have HNE2 := Hd hne2;have hkl := nf rows keep k;have HX0 := Hd (gl rows keep k);have hlk := HL.out k hlt;generalize rows.getD k [] = rk at *;have HLK := Hd hlk;have HEK := Hd hek;obtain ⟨A3,c3,hv3⟩ := ad hra.own;subst hv3;obtain ⟨q,hq⟩ : ∃ q,q = (bn rows keep k).length := ⟨_,rfl⟩;rw [← hq] at hkl HOB;obtain ⟨R0,hR0⟩ : ∃ R0,R0 = bn rows keep k := ⟨_,rfl⟩;rw [← hR0] at HRA HX0 hq;rw [← hq] at HRA;have HQ := Hd hq;clear hrr hek hcb hob htb hvr hra hf hv2 hlk hne2 hik hq hR0;cases hkp : keep k with
    | true =>
     rw [hkp] at HOKK;have HX := Hd (show bn rows keep (k + 1) = R0 ++ [rk] by rw [HX0.out,hkp]; rfl);clear HX0;go_wp2_with fail;refine HOKK.mono ?_;rintro e w2 ⟨rfl,hik2,hf2⟩;have HIK2 := Hd hik2;have hlto := HOB.lt;have hsz2 := hf2.size;have b1 := (HOB.fr hf2 (fun h => by omega)).cell 1;have HCLR := Hd (fun wy hr => iU B2 (.slice A2 m c2) rk wy (by rw [HLK.out]; exact hm) hr);have HF2D := Hd (show Fr (fun j => j = mb) wr w2.drew from hf2.drew);have HRA2 := Hd (HRA.fr HF2D (fun j hj e => by have := (HRA.own.lt j hj).1; omega) (fun i hi j hj e => by have := ((HRA.each i hi).lt j hj).1; omega));have HOB2 := Hd (HOB.fr HF2D (fun h => by omega));have hne := ac HRA.own HOB.out de;have hb1 : w.heap.size ≤ w2.heap.size := jj;clear hf2 hik2;go_wp2_with fail
     go_region_law (first
      | (go_simp; go_at_call 88; refine (HCLR _ (HEK.fr HF2D.out HNE2)).mono ?_; rintro e w3 ⟨v3,rfl,hrow3,hf3⟩; obtain ⟨A4,c4,hv4⟩ := ad hrow3; subst hv4; have b2 := (HOB2.fr hf3 id).cell 1; have b2f := (HOB2.fr hf3 id).frozen 1; have HRA3 := Hd (HRA2.frF hf3); have HOB3 := Hd (HOB2.fr hf3 id); have hlo3 := HOB3.lt; have hsz3 := hf3.size; rw [show w2.drew.heap.size = w2.heap.size from rfl] at hsz3)
      | (refine step_append_lies _ (by rfl) _ _ 45 (by rfl) w.heap.size 99 i48 _ 1 24 underlying45 hi48 hz480 hz481 hz482 rfl de (.slice A3 q c3) q vals2 (by rfl) (by have h := HRA3.own; rw [← HQ.out] at h; exact h.alloc _) ⟨w3.heap.size,0,none⟩ 1 1 [.slice A4 rk.length c4] (by rfl) rfl (by exact World.news_of_block (heap_alloc_new w3 _)) (by intro u hu; rw [List.mem_singleton] at hu; rw [hu]; rfl) de (by unfold maxLen; omega) jj (by simp; omega) (w3.heap.size + 1) (by simp) ?_; intro g cap w6 hown6 hgr6 hor6 hlt6; have hbl6 : Blk w6 w1.heap.size 47 _ := Blk.fr (HOB3.alloc _) (Fr.of_grown hgr6) hne; have d1 := hbl6.cell 1; have e1 := hbl6.frozen 1))
     all_goals
      have F6 : Fr (fun j => (Value.slice A3 q c3).ownBlock = some j) w3 w6 := ((Fr.refl _ w3).alloc _).trans (Fr.of_grown hgr6) ii;have F3 : Fr (fun j => j = mb) wr w3 := HF2D.trans hf3 uu;have FS : Fr (fun j => j = w1.heap.size) w6 (w6.setCell ⟨w1.heap.size,1,none⟩ (.slice (some ⟨g,0,none⟩) (q + 1) cap)) := (Fr.refl (fun j => j = w1.heap.size) w6).setCell ⟨w1.heap.size,1,none⟩ (fun _ => rfl) _;have O7 := Hd (show Blk (w6.setCell ⟨w1.heap.size,1,none⟩ (.slice (some ⟨g,0,none⟩) (q + 1) cap)) w1.heap.size 47 #[.slice V1 m vc1,.slice (some ⟨g,0,none⟩) (q + 1) cap] from hbl6.set_ 1 _);have hr6 := HRA3.push hrow3 (by rw [show w2.drew.heap.size = w2.heap.size from rfl]; exact hb1) (.cells #[.slice A4 rk.length c4] 99) (by rw [← HQ.out]; exact hown6) hgr6;rw [← HX.out] at hr6;have R7 := Hd (hr6.frB hbl6 de de FS);have T3 := HTB.fr F3 (fun h => by omega);have C3 := HCB.fr F3 (fun h => by omega);have V3 := aa HVR.out F3 (fun j hj e => by have := (HVR.lt j hj).1; omega);have hT := ac HRA3.own T3 de;have hC := ac HRA3.own C3 de;have T7 := Hd ((T3.fr F6 (fun h => hT h)).fr FS (fun h => absurd h jj));have C7 := Hd ((C3.fr F6 (fun h => hC h)).fr FS (fun h => absurd h jj));have V7 := Hd (aa (aa V3 F6 (fun j hj h => aw HRA3.own V3 de h hj)) FS (fun j hj h => ac V3 HOB3.out de (by rw [hj,h])));have F7 := Hd (((HF.trans F3 (fun _ _ h => .inr h)).trans F6 (fun j _ h => .inl (HRA3.own.lt j h).1)).trans FS (fun j _ h => .inl jj));have I7 := Hd (HIK (k + 1) w2 _ hb1 HIK2 (((((Fr.refl (fun j => w.heap.size ≤ j) w2).drew).trans hf3 uu).trans F6 (fun j _ h => (HRA3.own.lt j h).1)).trans FS (fun j _ h => by omega)));clear F6 F3 FS hr6 T3 C3 V3 hT hC hbl6 d1 e1 hown6 hgr6 hor6 hlt6 hrow3 hf3 b2 b2f b1 hne;go_wp2_with fail;go_roundw
      case rel => exact ⟨k + 1,_,_,by go_num,hlt,T7,O7,C7,V7,R7,I7,F7⟩
      case measure => simp only [intOf]; omega
    | false =>
     rw [hkp] at HOKK;have HX := Hd (show bn rows keep (k + 1) = R0 by rw [HX0.out,hkp]; rfl);clear HX0;go_wp2_with fail;refine HOKK.mono ?_;rintro e w2 ⟨rfl,hik2,hf2⟩;have HIK2 := Hd hik2;have T7 := Hd (HTB.fr hf2 (fun h => by omega));have C7 := Hd (HCB.fr hf2 (fun h => by omega));have O7 := Hd (HOB.fr hf2 (fun h => by omega));have V7 := Hd (aa HVR.out hf2 (fun j hj e => by have := (HVR.lt j hj).1; omega));have R7 := Hd (HRA.fr hf2 (fun j hj e => by have := (HRA.own.lt j hj).1; omega) (fun i hi j hj e => by have := ((HRA.each i hi).lt j hj).1; omega));have F7 := Hd (HF.trans hf2 (fun _ _ h => .inr h));clear hf2 hik2;go_wp2_with fail;go_roundw
     case rel => exact ⟨k + 1,_,_,by go_num,hlt,T7,O7,C7,V7,by rw [HX.out]; exact R7,HIK2,F7⟩
     case measure => simp only [intOf]; omega
  · have hlt' : ¬ (k : Int) < (rows.length : Int) := jj;have hkn : k = rows.length := jj;subst hkn;obtain ⟨Ar,cr,hvr2⟩ := ad hra.own;subst hvr2;clear HOK HIKK;generalize bn rows keep rows.length = R0 at *;generalize R0.length = q at *;have t0 := HOB.c0;have t1 := HOB.c1;have f0 := HCB.frozen 0;have cc0 := HCB.c0;have hb2 := HCB.set_ 0 (.slice V1 m vc1);have cc1 := hb2.c1;have f12 : (wr.setCell ⟨w.heap.size + 1,0,none⟩ (.slice V1 m vc1)).frozen? ⟨w.heap.size + 1,1,none⟩ = false := hb2.frozen 1;have hb3 : Blk ((wr.setCell ⟨w.heap.size + 1,0,none⟩ (.slice V1 m vc1)).setCell ⟨w.heap.size + 1,1,none⟩ (.slice Ar q cr)) (w.heap.size + 1) 47 #[.slice V1 m vc1,.slice Ar q cr] := hb2.set_ 1 (.slice Ar q cr);have FS : Fr (fun j => j = w.heap.size + 1) wr ((wr.setCell ⟨w.heap.size + 1,0,none⟩ (.slice V1 m vc1)).setCell ⟨w.heap.size + 1,1,none⟩ (.slice Ar q cr)) := ((Fr.refl (fun j => j = w.heap.size + 1) wr).setCell ⟨w.heap.size + 1,0,none⟩ (fun _ => rfl) _).setCell ⟨w.heap.size + 1,1,none⟩ (fun _ => rfl) _;have HB3 := Hd hb3;have HRA3 := Hd (HRA.frB HCB.out de de FS);have HVR3 := Hd (aa HVR.out FS (fun j hj e => ac HVR.out HCB.out de (by rw [hj,e])));have HF3 := Hd ((HF.trans FS (fun j _ h => .inl jj)).mono (T := fun j => j = mb) (fun j hj h => h.elim (fun h => absurd hj jj) id));clear hrr hb2 hb3 FS hob hcb htb hvr hra hik hf;go_wp2_with fail;exact bodyPost_ret (v := .agg #[.slice V1 m vc1,.slice Ar q cr]) (results_cell_row rfl _ _ (w.heap.size + 1) 47 _ (0,0) _ rfl HB3.out underlying47 rfl kr) rfl ⟨V1,vc1,.slice Ar q cr,vals2,rfl,hV1,HVR3,HRA3,HF3⟩
end Go.Proofs.YtfaapkpebnagmaaGreatDoor
