/- Texts of the proof, one behind the other: Gl. -/
import Derived.Test.YtfaapkpebnagmaaGreatDoorXd
import Derived.Laws.StructEq
namespace Go.Proofs.YtfaapkpebnagmaaGreatDoor
open _root_.Go.Proofs.Tryz
open Go.RowKit Go
set_option linter.unusedVariables false
set_option maxRecDepth 100000
set_option maxHeartbeats 400000000
variable {r B size n b : Nat} {S : Nat → Prop} {v vt : Value} {xs : List Value} {room : Int}
section
def io (a b c : ByteArray) : Bool := aZ a 0 && (((b.toList == [104,116,116,112,58,47,47,119,119,119,46,119,51,46,111,114,103,47,49,57,57,57,47,48,50,47,50,50,45,114,100,102,45,115,121,110,116,97,120,45,110,115,35,108,97,110,103,83,116,114,105,110,103]) == !c.toList.isEmpty) && (eu b && (c.toList.isEmpty || gQ c)))
theorem pZ (a b c : ByteArray) (w : World) (ha : a.size ≤ 4096) (hb : b.size ≤ 4096) (hc : c.size ≤ 4096) : Calls prog 421 #[.agg #[.string a,.string b,.string c]] w (IsB (io a b c) w) := by
 have HLG := Hd (show io a b c = (aZ a 0 && (((b.toList == [104,116,116,112,58,47,47,119,119,119,46,119,51,46,111,114,103,47,49,57,57,57,47,48,50,47,50,50,45,114,100,102,45,115,121,110,116,97,120,45,110,115,35,108,97,110,103,83,116,114,105,110,103]) == !c.toList.isEmpty) && (eu b && (c.toList.isEmpty || gQ c)))) from rfl);generalize io a b c = lg at *;have ha' : decide ((4096 : Int) < (a.size : Int)) = false := FX;have HG := Hd (fun w => pU a w ha);have HI := Hd (fun w => tN b w hb);have HL := Hd (fun w => wL c w hc);generalize aZ a 0 = tf at *;generalize eu b = ig at *;generalize gQ c = lo at *;have F0 := Fr.a1 w (.cells #[.string a,.string b,.string c] 216);have hbl := Blk.new w 216 #[.string a,.string b,.string c];have hq : ∃ q : Bool,(b.toList == [104,116,116,112,58,47,47,119,119,119,46,119,51,46,111,114,103,47,49,57,57,57,47,48,50,47,50,50,45,114,100,102,45,115,121,110,116,97,120,45,110,115,35,108,97,110,103,83,116,114,105,110,103]) = q := ⟨_,rfl⟩;obtain ⟨q,hq⟩ := hq;have he : ∃ e : Bool,c.toList.isEmpty = e := ⟨_,rfl⟩;obtain ⟨e,he⟩ := he;have HQ := Hd hq;have HE := Hd he;cases q with
 | false => cases e with
  | false =>
   go_enter func421,ntmps421;go_wp2_with fail;refine (HG _).mono ?_;rintro e w1 ⟨rfl,hf1⟩;have hb1 := hbl.fr hf1 id;have c1 := hb1.c1;have c2 := hb1.c2;have HF1 := Hd (F0.trans' hf1);have HB1 := Hd hb1;clear hf1 hb1 hbl F0;cases tf with
   | false =>
    go_wp2_with fail;go_ret;exact IsB.of HF1 (by rw [HLG.out]; rfl)
   | true =>
    go_wp2_with fail;go_ret;exact IsB.of HF1 (by rw [HLG.out,HQ.out,HE.out]; rfl)
  | true =>
   go_enter func421,ntmps421;go_wp2_with fail;refine (HG _).mono ?_;rintro e w1 ⟨rfl,hf1⟩;have hb1 := hbl.fr hf1 id;have c1 := hb1.c1;have c2 := hb1.c2;have HF1 := Hd (F0.trans' hf1);have HB1 := Hd hb1;clear hf1 hb1 hbl F0;cases tf with
   | false =>
    go_wp2_with fail;go_ret;exact IsB.of HF1 (by rw [HLG.out]; rfl)
   | true =>
    go_wp2_with fail;refine (HI _).mono ?_;rintro e w2 ⟨rfl,hf2⟩;have hb2 := HB1.fr hf2 id;have c2' := hb2.c2;have HF2 := Hd (HF1.trans' hf2);clear c1 c2 hf2 hb2 HB1;cases ig with
    | false =>
     go_wp2_with fail;go_ret;exact IsB.of HF2 (by rw [HLG.out,HQ.out,HE.out]; rfl)
    | true =>
     go_wp2_with fail
     first
      | (go_ret
         exact IsB.of HF2 (by rw [HLG.out,HQ.out,HE.out]; rfl))
      | (refine (HL _).mono ?_
         rintro e w3 ⟨rfl,hf3⟩;have HF3 := Hd (HF2.trans' hf3);clear hf3;go_wp2_with fail;go_ret;exact IsB.of HF3 (by rw [HLG.out,HQ.out,HE.out]; simp))
 | true => cases e with
  | false =>
   go_enter func421,ntmps421;go_wp2_with fail;refine (HG _).mono ?_;rintro e w1 ⟨rfl,hf1⟩;have hb1 := hbl.fr hf1 id;have c1 := hb1.c1;have c2 := hb1.c2;have HF1 := Hd (F0.trans' hf1);have HB1 := Hd hb1;clear hf1 hb1 hbl F0;cases tf with
   | false =>
    go_wp2_with fail;go_ret;exact IsB.of HF1 (by rw [HLG.out]; rfl)
   | true =>
    go_wp2_with fail;refine (HI _).mono ?_;rintro e w2 ⟨rfl,hf2⟩;have hb2 := HB1.fr hf2 id;have c2' := hb2.c2;have HF2 := Hd (HF1.trans' hf2);clear c1 c2 hf2 hb2 HB1;cases ig with
    | false =>
     go_wp2_with fail;go_ret;exact IsB.of HF2 (by rw [HLG.out,HQ.out,HE.out]; rfl)
    | true =>
     go_wp2_with fail
     first
      | (go_ret
         exact IsB.of HF2 (by rw [HLG.out,HQ.out,HE.out]; rfl))
      | (refine (HL _).mono ?_
         rintro e w3 ⟨rfl,hf3⟩;have HF3 := Hd (HF2.trans' hf3);clear hf3;go_wp2_with fail;go_ret;exact IsB.of HF3 (by rw [HLG.out,HQ.out,HE.out]; simp))
  | true =>
   go_enter func421,ntmps421;go_wp2_with fail;refine (HG _).mono ?_;rintro e w1 ⟨rfl,hf1⟩;have hb1 := hbl.fr hf1 id;have c1 := hb1.c1;have c2 := hb1.c2;have HF1 := Hd (F0.trans' hf1);have HB1 := Hd hb1;clear hf1 hb1 hbl F0;cases tf with
   | false =>
    go_wp2_with fail;go_ret;exact IsB.of HF1 (by rw [HLG.out]; rfl)
   | true =>
    go_wp2_with fail;go_ret;exact IsB.of HF1 (by rw [HLG.out,HQ.out,HE.out]; rfl)
inductive Tm where
 | bla (a : ByteArray)
 | iri (a : ByteArray)
 | lit (a b c : ByteArray)
def Tm.val : Tm → Value
 | .bla a => .iface 214 (.agg #[.string a])
 | .iri a => .iface 207 (.agg #[.string a])
 | .lit a b c => .iface 216 (.agg #[.string a,.string b,.string c])
def Tm.kind : Tm → Int
 | .bla _ => 0
 | .iri _ => 1
 | .lit _ _ _ => 2
def Tm.short : Tm → Prop
 | .bla a => a.size ≤ 4096
 | .iri a => a.size ≤ 4096
 | .lit a b c => a.size ≤ 4096 ∧ b.size ≤ 4096 ∧ c.size ≤ 4096
theorem Et (x : Value) (w : World) : (Instr.typeAssert (.iface 214 x) 75 214 true).run prog w = .ok (.tuple #[x,.bool true]) w := kr
theorem Eu (x : Value) (w : World) : (Instr.typeAssert (.iface 207 x) 75 214 true).run prog w = .ok (.tuple #[.agg #[.string ⟨#[]⟩],.bool false]) w := kr
theorem Ev (x : Value) (w : World) : (Instr.typeAssert (.iface 216 x) 75 214 true).run prog w = .ok (.tuple #[.agg #[.string ⟨#[]⟩],.bool false]) w := kr
theorem Ew (x : Value) (w : World) : (Instr.typeAssert (.iface 207 x) 75 207 true).run prog w = .ok (.tuple #[x,.bool true]) w := kr
theorem Ex (x : Value) (w : World) : (Instr.typeAssert (.iface 216 x) 75 207 true).run prog w = .ok (.tuple #[.agg #[.string ⟨#[]⟩],.bool false]) w := kr
theorem Ey (x : Value) (w : World) : (Instr.typeAssert (.iface 216 x) 75 216 true).run prog w = .ok (.tuple #[x,.bool true]) w := kr
theorem FC (x : Value) (w : World) : (method 616 214 x "Good").run prog w = .ok (419,x) w := kr
theorem FD (x : Value) (w : World) : (method 616 207 x "Good").run prog w = .ok (414,x) w := kr
theorem FE (x : Value) (w : World) : (method 616 216 x "Good").run prog w = .ok (421,x) w := kr
attribute [local go_sem] Et Eu Ev Ew Ex Ey FC FD FE
theorem k9 (t : Tm) (w : World) : Calls prog 155 #[t.val] w fun e w' => e = .returned (.int .i64 t.kind) ∧ w = w' := by
 cases t with
 | bla a =>
  unfold Tm.val Tm.kind;go_enter func155,ntmps155;go_wp2_with fail;go_ret;exact ⟨rfl,rfl⟩
 | iri a =>
  unfold Tm.val Tm.kind;go_enter func155,ntmps155;go_wp2_with fail;go_ret;exact ⟨rfl,rfl⟩
 | lit a b c =>
  unfold Tm.val Tm.kind;go_enter func155,ntmps155;go_wp2_with fail;go_ret;exact ⟨rfl,rfl⟩
def Tm.good : Tm → Bool
 | .bla a => eB a
 | .iri a => eu a
 | .lit a b c => io a b c
theorem eC (t : Tm) (w : World) (hs : t.short) : Calls prog 104 #[t.val] w (IsB t.good w) := by
 have HK := Hd (fun w => k9 t w);cases t with
 | bla a =>
  unfold Tm.val Tm.kind at HK;unfold Tm.val Tm.good;have HB := Hd (fun w => uS a w hs);clear hs;go_enter func104,ntmps104;go_wp2_with fail;refine (HK _).mono ?_;rintro e w1 ⟨rfl,rfl⟩;go_wp2_with fail;refine (HB _).mono ?_;rintro e w1 ⟨rfl,hf⟩;go_wp2_with fail;go_ret;exact IsB.mk hf
 | iri a =>
  unfold Tm.val Tm.kind at HK;unfold Tm.val Tm.good;have HB := Hd (fun w => tN a w hs);clear hs;go_enter func104,ntmps104;go_wp2_with fail;refine (HK _).mono ?_;rintro e w1 ⟨rfl,rfl⟩;go_wp2_with fail;refine (HB _).mono ?_;rintro e w1 ⟨rfl,hf⟩;go_wp2_with fail;go_ret;exact IsB.mk hf
 | lit a b c =>
  unfold Tm.val Tm.kind at HK;unfold Tm.val Tm.good;obtain ⟨h1,h2,h3⟩ := hs;have HB := Hd (fun w => pZ a b c w h1 h2 h3);clear h1 h2 h3;go_enter func104,ntmps104;go_wp2_with fail;refine (HK _).mono ?_;rintro e w1 ⟨rfl,rfl⟩;go_wp2_with fail;refine (HB _).mono ?_;rintro e w1 ⟨rfl,hf⟩;go_wp2_with fail;go_ret;exact IsB.mk hf
theorem zR (x y : Value) (w : World) : (Op.equal 75 (.iface 216 x) (.iface 216 y)).run prog w = (Op.equalIn 9999 216 x y).run prog w := kr
theorem zS (x y : Value) (w : World) : (Op.equal 75 (.iface 207 x) (.iface 207 y)).run prog w = (Op.equalIn 9999 207 x y).run prog w := kr
theorem zT (x y : Value) (w : World) : (Op.equal 75 (.iface 214 x) (.iface 214 y)).run prog w = (Op.equalIn 9999 214 x y).run prog w := kr
theorem CI (x y : Value) (w : World) : (Op.equal 75 (.iface 216 x) (.iface 207 y)).run prog w = .ok false w := kr
theorem CJ (x y : Value) (w : World) : (Op.equal 75 (.iface 216 x) (.iface 214 y)).run prog w = .ok false w := kr
theorem CK (x y : Value) (w : World) : (Op.equal 75 (.iface 207 x) (.iface 216 y)).run prog w = .ok false w := kr
theorem CL (x y : Value) (w : World) : (Op.equal 75 (.iface 207 x) (.iface 214 y)).run prog w = .ok false w := kr
theorem CM (x y : Value) (w : World) : (Op.equal 75 (.iface 214 x) (.iface 216 y)).run prog w = .ok false w := kr
theorem CN (x y : Value) (w : World) : (Op.equal 75 (.iface 214 x) (.iface 207 y)).run prog w = .ok false w := kr
theorem CO (a b c a' b' c' : ByteArray) (w : World) : (Op.equalIn 9999 216 (.agg #[.string a,.string b,.string c]) (.agg #[.string a',.string b',.string c'])).run prog w = .ok ((a.toList == a'.toList) && ((b.toList == b'.toList) && (c.toList == c'.toList))) w := by
 rw [show (9999 : Nat) = 9998 + 1 from rfl];rw [run_equalIn_agg w 9998 216 _ _ kr kr];have u9 := underlying9;have a9 := Tryz.isAgg9;simp only [Program.fieldsOf,underlying216];go_simp;by_cases h1 : a.toList = a'.toList <;> by_cases h2 : b.toList = b'.toList <;> by_cases h3 : c.toList = c'.toList <;> simp [h1,h2,h3]
theorem CP (a a' : ByteArray) (w : World) : (Op.equalIn 9999 207 (.agg #[.string a]) (.agg #[.string a'])).run prog w = .ok (a.toList == a'.toList) w := by
 rw [show (9999 : Nat) = 9998 + 1 from rfl];rw [run_equalIn_agg w 9998 207 _ _ kr kr];have u9 := underlying9;have a9 := Tryz.isAgg9;simp only [Program.fieldsOf,underlying207];go_simp;by_cases h1 : a.toList = a'.toList <;> simp [h1]
theorem CQ (a a' : ByteArray) (w : World) : (Op.equalIn 9999 214 (.agg #[.string a]) (.agg #[.string a'])).run prog w = .ok (a.toList == a'.toList) w := by
 rw [show (9999 : Nat) = 9998 + 1 from rfl];rw [run_equalIn_agg w 9998 214 _ _ kr kr];have u9 := underlying9;have a9 := Tryz.isAgg9;simp only [Program.fieldsOf,underlying214];go_simp;by_cases h1 : a.toList = a'.toList <;> simp [h1]
theorem bytes_inj {a b : ByteArray} : a.toList = b.toList ↔ a = b := by
 constructor
 · intro h;have := beq_toListBytes a b;rw [h] at this;have h2 : (a.data == b.data) = true := by
    have h3 : (a == b) = true := by rw [this]; simp
    exact h3
   exact ByteArray.ext (eq_of_beq h2)
 · rintro rfl; rfl
theorem Ez (t u : Tm) (w : World) : ∃ b : Bool,(Op.equal 75 t.val u.val).run prog w = .ok b w ∧ (b = true ↔ t = u) := by
 cases t with
 | bla a => cases u with
  | bla a' => exact ⟨_,(zT _ _ w).trans (CQ a a' w),by simp [bytes_inj]⟩
  | iri a' => exact ⟨_,CN _ _ w,by simp⟩
  | lit a' b' c' => exact ⟨_,CM _ _ w,by simp⟩
 | iri a => cases u with
  | bla a' => exact ⟨_,CL _ _ w,by simp⟩
  | iri a' => exact ⟨_,(zS _ _ w).trans (CP a a' w),by simp [bytes_inj]⟩
  | lit a' b' c' => exact ⟨_,CK _ _ w,by simp⟩
 | lit a b c => cases u with
  | bla a' => exact ⟨_,CJ _ _ w,by simp⟩
  | iri a' => exact ⟨_,CI _ _ w,by simp⟩
  | lit a' b' c' => exact ⟨_,(zR _ _ w).trans (CO a b c a' b' c' w),by simp [bytes_inj]⟩
theorem zU (e : Bool) (a : ByteArray) (w : World) : (Instr.checkKey e 10000 75 (Tm.bla a).val).run prog w = .ok () w := kr
theorem zV (e : Bool) (a : ByteArray) (w : World) : (Instr.checkKey e 10000 75 (Tm.iri a).val).run prog w = .ok () w := kr
theorem zW (e : Bool) (a b c : ByteArray) (w : World) : (Instr.checkKey e 10000 75 (Tm.lit a b c).val).run prog w = .ok () w := kr
theorem wP (e : Bool) (t : Tm) (w : World) : (Instr.checkKey e 10000 75 t.val).run prog w = .ok () w := by
 cases t with
 | bla a => exact zU e a w
 | iri a => exact zV e a w
 | lit a b c => exact zW e a b c w
def oG : Nat → List MapEntry → List Tm → Prop
 | _,[],[] => True
 | n,e :: es,t :: ts => e.key = t.val ∧ e.val = .int .i64 (n : Int) ∧ oG (n + 1) es ts
 | _,_,_ => False
open Classical in
noncomputable def eY : List Tm → Tm → Option Nat
 | [],_ => none
 | u :: us,t => if t = u then some 0 else (eY us t).map (· + 1)
theorem tO (t : Tm) (w : World) : ∀ (n i : Nat) (es : List MapEntry) (ts : List Tm),oG n es ts →
    (Instr.findAsking 75 t.val es i).run prog w = .ok ((eY ts t).map fun j => (i + j,Value.int .i64 ((n + j : Nat) : Int))) w
 | n,i,[],[],_ => by simp [Instr.findAsking,eY]
 | n,i,[],_ :: _,h => by cases h
 | n,i,_ :: _,[],h => by cases h
 | n,i,e :: es,u :: us,h => by
  obtain ⟨h1,h2,h3⟩ := h;obtain ⟨b,hb,hiff⟩ := Ez t u w;have ih := tO t w (n + 1) (i + 1) es us h3;rw [← h1] at hb;unfold Instr.findAsking eY;cases b with
  | true =>
   rw [if_pos (hiff.1 rfl)];simp [hb,h2]
  | false =>
   have hne : ¬ t = u := fun e => by have := hiff.2 e; cases this
   rw [if_neg hne];simp only [Sem.run_bind,hb,Result.andThen_ok,Bool.false_eq_true,if_false,ih];cases eY us t with
   | none => rfl
   | some j =>
    simp only [Option.map_some];rw [show i + 1 + j = i + (j + 1) by omega,show n + 1 + j = n + (j + 1) by omega]
theorem lh (t : Tm) (w : World) (es : List MapEntry) (ts : List Tm) (h : oG 0 es ts) :
    (Instr.findKey 75 t.val es).run prog w = .ok ((eY ts t).map fun j => (j,Value.int .i64 (j : Int))) w := by
 have h2 := tO t w 0 0 es ts h;simp only [Nat.zero_add] at h2;rw [← h2];cases es with
 | nil => simp [Instr.findKey,run_underlying underlying75,Instr.findNow,Instr.findAsking]
 | cons e es => simp [Instr.findKey,run_underlying underlying75,Instr.findNow,Instr.sameNow]
def MapAt (w : World) (r : Nat) (ts : List Tm) : Prop := ∃ (es : Array MapEntry) (clock : Nat),w.heap[r]? = some (.map es clock) ∧ oG 0 es.toList ts
def World.mapSet (w : World) (r : Nat) (o : Obj) : World := { w with heap := w.heap.setIfInBounds r o }
theorem mM {w : World} {ts : List Tm} (h : MapAt w r ts) (t : Tm) :
    (Instr.lookup 111 (.map (some r)) t.val true).run prog w = .ok (.tuple #[.int .i64 (((eY ts t).getD 0 : Nat) : Int),.bool (eY ts t).isSome]) w := by
 obtain ⟨es,clock,hg,he⟩ := h;have hf := lh t w es.toList ts he;have hz : (zeroValue 3).run prog w = .ok (.int .i64 0) w := kr;have hget : (getObj r).run prog w = .ok (.map es clock) w := by simp [getObj,Sem.run,hg]
 simp only [Instr.lookup,Sem.run_bind,run_underlying underlying111,Result.andThen_ok,hget,Sem.run_pure,wP,hf];cases eY ts t with
 | none => simp [hz]
 | some j => simp
theorem oG.push {t : Tm} : ∀ (n : Nat) (es : List MapEntry) (ts : List Tm) (c : Nat),oG n es ts → oG n (es ++ [{ key := t.val,val := .int .i64 ((n + ts.length : Nat) : Int),born := c }]) (ts ++ [t])
 | n,[],[],c,_ => ⟨rfl,rfl,trivial⟩
 | n,[],_ :: _,c,h => by cases h
 | n,_ :: _,[],c,h => by cases h
 | n,e :: es,u :: us,c,h => by
  obtain ⟨h1,h2,h3⟩ := h;have ih := oG.push (t := t) (n + 1) es us c h3;refine ⟨h1,h2,?_⟩;rw [show n + (u :: us).length = n + 1 + us.length by simp; omega];exact ih
theorem jX {w : World} {ts : List Tm} (h : MapAt w r ts) (t : Tm) (hn : eY ts t = none) :
    ∃ w',(Instr.mapUpdate 111 (.map (some r)) t.val (.int .i64 (ts.length : Int))).run prog w = .ok () w' ∧ MapAt w' r (ts ++ [t]) ∧ Fr (fun j => j = r) w w' := by
 obtain ⟨es,clock,hg,he⟩ := h;have hf := lh t w es.toList ts he;rw [hn] at hf;have hget : (getObj r).run prog w = .ok (.map es clock) w := by simp [getObj,Sem.run,hg]
 have hlt : r < w.heap.size := (Array.getElem?_eq_some_iff.1 hg).1;refine ⟨World.mapSet w r (.map (es.push { key := t.val,val := .int .i64 (ts.length : Int),born := clock }) (clock + 1)),?_,⟨es.push { key := t.val,val := .int .i64 (ts.length : Int),born := clock },clock + 1,by simp [World.mapSet,hlt],?_⟩,⟨rfl,rfl,rfl,by simp [World.mapSet],fun k hk hne => ?_⟩⟩
 · simp only [Instr.mapUpdate,Sem.run_bind,run_underlying underlying111,Result.andThen_ok,hget,wP,hf,Option.map_none];have hg2 : w.heap[r] = Obj.map es clock := by
    rw [Array.getElem?_eq_getElem hlt] at hg;exact Option.some.inj hg
   simp [setObj,Sem.run,hlt,World.mapSet,hg2]
 · have := oG.push (t := t) 0 es.toList ts clock he;simpa using this
 · show (w.heap.setIfInBounds r _)[k]? = _;rw [Array.getElem?_setIfInBounds_ne (fun e => hne e.symm)]
theorem MapAt.lt {w : World} {ts : List Tm} (h : MapAt w r ts) : r < w.heap.size := by
 obtain ⟨es,clock,hg,_⟩ := h;exact (Array.getElem?_eq_some_iff.1 hg).1
theorem MapAt.fr {w w' : World} {ts : List Tm} (h : MapAt w r ts) (hf : Fr S w w') (hn : ¬ S r) : MapAt w' r ts := by
 have hl := h.lt;obtain ⟨es,clock,hg,he⟩ := h;exact ⟨es,clock,(hf.block r hl hn).trans hg,he⟩
theorem ad {w : World} {e : TypeId} (h : w.ownsRow B e size v n xs) : ∃ A c,v = .slice A n c := by
 rcases h.2 with ⟨h1,h2⟩ | ⟨g,cap,cur,h1,_⟩
 · exact ⟨none,0,by rw [h1,h2]⟩
 · exact ⟨_,_,h1⟩
theorem CR : (prog.info? 75).map (fun i => (i.zero,i.size,i.bytes)) = some (some .nilIface,1,16) := kr
theorem Tm.one (t : Tm) : t.val.oneCell' = true := by cases t <;> rfl
structure aU (w : World) (B b r : Nat) (vt : Value) (ts : List Tm) (room : Int) : Prop where
 blk : Blk w b 114 #[vt,.map (some r),.int .i64 room]
 row : w.ownsRow B 75 1 vt ts.length (ts.map Tm.val)
 map : MapAt w r ts
 leb : B ≤ b
 ler : B ≤ r
theorem MapAt.ne_blk {w : World} {g : Nat} {ts : List Tm} {t : TypeId} {cs : Array Value} (h : MapAt w r ts) (hb : Blk w g t cs) : g ≠ r := by
 rintro rfl;obtain ⟨es,clock,hg,_⟩ := h;unfold Blk at hb;rw [hb] at hg;cases hg
theorem MapAt.ne_row {w : World} {e : Nat} {ts : List Tm} (h : MapAt w r ts) (hr : w.ownsRow B e size v n xs) : v.ownBlock ≠ some r := by
 rcases hr.2 with ⟨rfl,_⟩ | ⟨g,cap,cur,rfl,_,hh,_⟩
 · simp [Value.ownBlock]
 · intro he;have : g = r := by simpa [Value.ownBlock] using he
   exact h.ne_blk (show Blk w g e cur from hh) this
theorem aU.fr {w w' : World} {ts : List Tm} (h : aU w B b r vt ts room) (hf : Fr S w w') (h1 : ¬ S b) (h2 : ¬ S r) (h3 : ∀ k,vt.ownBlock = some k → ¬ S k) : aU w' B b r vt ts room :=
 ⟨h.blk.fr hf h1,aa h.row hf h3,h.map.fr hf h2,h.leb,h.ler⟩
theorem aU.frF {w w' : World} {ts : List Tm} (h : aU w B b r vt ts room) (hf : Fr (fun _ => False) w w') : aU w' B b r vt ts room := h.fr hf id id ii
theorem CS (w : World) : (Instr.makeMap 111 none).run prog w = .ok (.map (some w.heap.size)) (w.alloc (.map #[] 0)) := rfl
theorem p9 (room : Int) (w : World) (h1 : 1 ≤ room) (h2 : room ≤ 65536) :
    Calls prog 13 #[.int .i64 room] w fun e w' => e = .returned (.tuple #[.pointer (some ⟨w.heap.size + 1,0,none⟩),.int .i64 0]) ∧ aU w' w.heap.size (w.heap.size + 1) w.heap.size (.slice none 0 0) [] room ∧ Fr (fun _ => False) w w' := by
 have hmk := CS;have hm : MapAt (w.alloc (.map #[] 0)) w.heap.size [] := ⟨#[],0,heap_alloc_new w _,trivial⟩;have hsz := al1 w (.map #[] 0);have hb := Blk.new (w.alloc (.map #[] 0)) 114 #[.slice none 0 0,.map (some w.heap.size),.int .i64 room];rw [hsz] at hb;have F := Fr.a2 w (.map #[] 0) (.cells #[.slice none 0 0,.map (some w.heap.size),.int .i64 room] 114);have hm2 := hm.fr ((Fr.refl (fun _ => False) _).alloc (.cells #[.slice none 0 0,.map (some w.heap.size),.int .i64 room] 114)) id;have FIN := Hd (show aU ((w.alloc (.map #[] 0)).alloc (.cells #[.slice none 0 0,.map (some w.heap.size),.int .i64 room] 114)) w.heap.size (w.heap.size + 1) w.heap.size (.slice none 0 0) [] room from
  ⟨hb,World.ownsRow_nil _ _ _ _,hm2,by omega,Nat.le_refl _⟩)
 have HF := Hd F;clear hm hsz hb F hm2;go_enter func13,ntmps13;go_wp2_with fail;go_ret2;exact ⟨rfl,FIN,HF⟩
noncomputable def dM (ts : List Tm) (t : Tm) : Int := if t.good = true then (((eY ts t).getD 0 : Nat) : Int) else 0
noncomputable def eH (ts : List Tm) (t : Tm) : Int := if t.good = true ∧ (eY ts t).isSome = true then 0 else 4
theorem li (w : World) (B b r : Nat) (vt : Value) (ts : List Tm) (room : Int) (t : Tm) (hd : aU w B b r vt ts room) (hs : t.short) :
    Calls prog 105 #[.pointer (some ⟨b,0,none⟩),t.val] w fun e w' => e = .returned (.tuple #[.int .i64 (dM ts t),.int .i64 (eH ts t)]) ∧ Fr (fun _ => False) w w' := by
 have HG := Hd (fun w => eC t w hs);have HN := Hd (show dM ts t = if t.good = true then (((eY ts t).getD 0 : Nat) : Int) else 0 from rfl);have HE := Hd (show eH ts t = if t.good = true ∧ (eY ts t).isSome = true then 0 else 4 from rfl);generalize dM ts t = fn at *;generalize eH ts t = fe at *;have HD := Hd hd;generalize hg : t.good = g at *;clear hd hg;cases g with
 | false =>
  go_enter func105,ntmps105;go_wp2_with fail;refine (HG _).mono ?_;rintro e w1 ⟨rfl,hf⟩;have HF := Hd hf;clear hf;go_wp2_with fail;go_ret2;exact ⟨by rw [HN.out,HE.out]; simp,HF⟩
 | true =>
  go_enter func105,ntmps105;go_wp2_with fail;refine (HG _).mono ?_;rintro e w1 ⟨rfl,hf⟩;have hd1 := HD.frF hf;have c1 := hd1.blk.c1;have hlk := mM hd1.map t;have HF := Hd hf;clear hf hd1;generalize eY ts t = ix at *;cases ix with
  | none =>
   simp only [Option.getD_none,Option.isSome_none] at hlk;go_wp2_with fail;go_ret2;exact ⟨by rw [HN.out,HE.out]; simp,HF⟩
  | some j =>
   simp only [Option.getD_some,Option.isSome_some] at hlk;go_wp2_with fail;go_ret2;exact ⟨by rw [HN.out,HE.out]; simp,HF⟩
noncomputable def qa (ts : List Tm) (t : Tm) (room : Int) : Int := if t.good = true then (match eY ts t with | some j => (j : Int) | none => if room ≤ (ts.length : Int) then 0 else (ts.length : Int)) else 0
noncomputable def zX (ts : List Tm) (t : Tm) (room : Int) : Int := if t.good = true then (match eY ts t with | some _ => 0 | none => if room ≤ (ts.length : Int) then 6 else 0) else 3
noncomputable def mN (ts : List Tm) (t : Tm) (room : Int) : List Tm := if t.good = true then (match eY ts t with | some _ => ts | none => if room ≤ (ts.length : Int) then ts else ts ++ [t]) else ts
theorem Tm.shape (t : Tm) : ∃ d x,t.val = .iface d x := by cases t <;> exact ⟨_,_,rfl⟩
def tP (w : World) (B b r : Nat) (vt : Value) (n e : Int) (l : List Tm) (room : Int) (x : Ending) (w' : World) : Prop :=
 ∃ vt',x = .returned (.tuple #[.int .i64 n,.int .i64 e]) ∧ aU w' B b r vt' l room ∧ Fr (fun j => j = b ∨ j = r ∨ vt.ownBlock = some j) w w' ∧ ∀ k,vt'.ownBlock = some k → vt.ownBlock = some k ∨ w.heap.size ≤ k
theorem zY (w : World) (B b r : Nat) (vt : Value) (ts : List Tm) (room : Int) (t : Tm) (hd : aU w B b r vt ts room) (hs : t.short) (hlen : ts.length ≤ 100000) (hB : B ≤ w.heap.size) :
    Calls prog 55 #[.pointer (some ⟨b,0,none⟩),t.val] w (tP w B b r vt (qa ts t room) (zX ts t room) (mN ts t room) room) := by
 obtain ⟨i37,hi37,hz370,hz371,hz372⟩ := info_parts CR;have HFI := Hd (li w B b r vt ts room t hd hs);have HG := Hd (fun w => eC t w hs);unfold qa zX mN;unfold dM eH at HFI;have HD := Hd hd;obtain ⟨A,c,hvt⟩ := ad hd.row;subst hvt;generalize hg : t.good = g at *;clear hd hg;cases g with
 | false =>
  simp only [Bool.false_eq_true,if_false,false_and] at HFI ⊢;go_enter func55,ntmps55;go_wp2_with fail;refine HFI.mono ?_;rintro e w1 ⟨rfl,hf1⟩;have HF1 := Hd hf1;clear hf1;go_wp2_with fail;refine (HG _).mono ?_;rintro e w2 ⟨rfl,hf2⟩;have HF2 := Hd (HF1.trans' hf2);clear hf2;go_wp2_with fail;go_ret2;exact ⟨_,rfl,HD.frF HF2,HF2.mono uu,fun k hk => .inl hk⟩
 | true =>
  simp only [if_true,true_and] at HFI ⊢;generalize hix : eY ts t = ix at *;have HIX := Hd hix;clear hix;cases ix with
  | some j =>
   simp only [Option.isSome_some,if_true,Option.getD_some] at HFI ⊢;go_enter func55,ntmps55;go_wp2_with fail;refine HFI.mono ?_;rintro e w1 ⟨rfl,hf1⟩;have HF1 := Hd hf1;clear hf1;go_wp2_with fail;refine (HG _).mono ?_;rintro e w2 ⟨rfl,hf2⟩;have HF2 := Hd (HF1.trans' hf2);clear hf2;go_wp2_with fail;go_ret2;exact ⟨_,rfl,HD.frF HF2,HF2.mono uu,fun k hk => .inl hk⟩
  | none =>
   simp only [Option.isSome_none,Bool.false_eq_true,if_false,Option.getD_none] at HFI ⊢;by_cases hr : room ≤ (ts.length : Int)
   · have hr' : decide (room ≤ (ts.length : Int)) = true := decide_eq_true hr;rw [if_pos hr,if_pos hr,if_pos hr];go_enter func55,ntmps55;go_wp2_with fail;refine HFI.mono ?_;rintro e w1 ⟨rfl,hf1⟩;have HF1 := Hd hf1;clear hf1;go_wp2_with fail;refine (HG _).mono ?_;rintro e w2 ⟨rfl,hf2⟩;have hd2 := HD.frF (HF1.trans' hf2);have c0 := hd2.blk.c0;have c2 := hd2.blk.c2;have HD2 := Hd hd2;have HF2 := Hd (HF1.trans' hf2);clear hf2 hd2;go_wp2_with fail
     go_quiet (fail);go_wp2_with fail;go_ret2;exact ⟨_,rfl,HD2.frF ((Fr.refl _ _).drewN _),(HF2.drewN _).mono uu,fun k hk => .inl hk⟩
   · have hr' : decide (room ≤ (ts.length : Int)) = false := decide_eq_false hr;rw [if_neg hr,if_neg hr,if_neg hr];obtain ⟨d,x,htv⟩ := t.shape;have h1 := t.one;rw [htv] at h1 ⊢;have HFI := Hd (htv ▸ HFI.out);have HG := Hd (fun w => htv ▸ HG.out w);have HTV := Hd htv;have H1 := Hd h1;clear htv h1;go_enter func55,ntmps55;go_wp2_with fail;refine HFI.mono ?_;rintro e w1 ⟨rfl,hf1⟩;have HF1 := Hd hf1;clear hf1;go_wp2_with fail;refine (HG _).mono ?_;rintro e w2 ⟨rfl,hf2⟩;have hd2 := HD.frF (HF1.trans' hf2);have c0 := hd2.blk.c0;have c2 := hd2.blk.c2;have HD2 := Hd hd2;have HF2 := Hd (HF1.trans' hf2);clear hf2 hd2;go_wp2_with fail
     go_quiet (fail);have hd3 := HD2.frF ((Fr.refl (fun _ => False) w2).drewN nq);have HF3 := Hd (HF2.drewN nq);generalize w2.drewN nq = w3 at *;have HD3 := Hd hd3;clear c0 c2 hd3;have c0 := HD3.blk.c0;have c1 := HD3.blk.c1;go_wp2_with fail
     go_still_tail 10,kr;change wpList _ _ _ _ _ w3.drew;have hd4 := HD3.frF ((Fr.refl (fun _ => False) w3).drew);have HF4 := Hd (HF3.drew);generalize w3.drew = w4 at *;obtain ⟨w5,hup,hm5,hf5⟩ := jX hd4.map t HIX.out;rw [HTV.out] at hup;have hb5 := hd4.blk.fr hf5 (fun h => hd4.map.ne_blk hd4.blk h);have hr5 := aa hd4.row hf5 (fun k hk h => hd4.map.ne_row hd4.row (by rw [hk,h]));have HF5 := Hd hf5;have HM5 := Hd hm5;have HD4 := Hd hd4;have HB5 := Hd hb5;have hnr := Hd (hm5.ne_row hr5);have hnb := Hd (hm5.ne_blk hb5);clear c0 c1 hd4 hf5 hm5;have c0 := hb5.c0;have g0 : w5.frozen? ⟨b,0,none⟩ = false := hb5.frozen 0;clear hb5;go_wp2_with (at_builtin; refine wpList_append_own_at _ rfl _ _ 112 rfl B 75 i37 _ 1 16 underlying112 hi37 hz370 hz371 hz372 rfl de _ ts.length (ts.map Tm.val) (by rfl) (hr5.alloc _) ⟨w5.heap.size,0,none⟩ 1 1 [.iface d x] (by rfl) rfl (World.news_of_block (heap_alloc_new w5 _)) (by intro u hu; rw [List.mem_singleton] at hu; rw [hu]; exact H1) (by unfold maxLen; omega) jj (by simp; have := HF4.size; have := HF5.size; omega) ?_; intro v6 w6 hown6 hgr6 _ hat6; obtain ⟨A6,c6,hv6⟩ := ad hown6; subst hv6; have hb6 := (HB5.alloc (.cells #[.iface d x] 75)).fr (Fr.of_grown hgr6) (fun h => ac hr5 HB5.out de h); have c06 := hb6.c0; have g06 : w6.frozen? ⟨b,0,none⟩ = false := hb6.frozen 0; have hbl6 := hb6.lt; have HB6 := Hd hb6; clear c0 g0 hb6);have hb7 := HB6.set_ 0 (.slice A6 (ts.length + 1) c6);have F6 : Fr (fun j => j = r ∨ (Value.slice A ts.length c).ownBlock = some j) w4 w6 := ((HF5.mono (fun _ _ h => .inl h)).alloc _).trans (Fr.of_grown hgr6) (fun i hi e => .inr e);have F7 : Fr (fun j => j = b ∨ j = r ∨ (Value.slice A ts.length c).ownBlock = some j) w (w6.setCell ⟨b,0,none⟩ (.slice A6 (ts.length + 1) c6)) :=
      ((HF4.mono uu).trans (F6.mono (fun _ _ h => .inr h)) ii).setCell ⟨b,0,none⟩ (fun _ => .inl rfl) _
     have hs45 := HF5.size;have hs4 := HF4.size;have hm6 : MapAt w6 r (ts ++ [t]) := (HM5.fr ((Fr.refl (fun _ => False) w5).alloc (.cells #[.iface d x] 75)) id).fr (Fr.of_grown hgr6) (fun h => hnr.out h);have hm7 : MapAt (w6.setCell ⟨b,0,none⟩ (.slice A6 (ts.length + 1) c6)) r (ts ++ [t]) := hm6.fr ((Fr.refl (fun j => j = b) w6).setCell ⟨b,0,none⟩ (fun _ => rfl) _) (fun h => hnb.out h.symm);have hr7 : (w6.setCell ⟨b,0,none⟩ (.slice A6 (ts.length + 1) c6)).ownsRow B 75 1 (.slice A6 (ts.length + 1) c6) (ts ++ [t]).length ((ts ++ [t]).map Tm.val) := by
      have e1 : (ts ++ [t]).length = ts.length + 1 := by simp
      have e2 : (ts ++ [t]).map Tm.val = ts.map Tm.val ++ [.iface d x] := by rw [List.map_append,← HTV.out]; rfl
      rw [e1,e2];exact aa hown6 ((Fr.refl (fun j => j = b) w6).setCell ⟨b,0,none⟩ (fun _ => rfl) _) (fun k hk h => ac hown6 HB6.out de (by rw [hk,h]))
     have hown : ∀ k,(Value.slice A6 (ts.length + 1) c6).ownBlock = some k → (Value.slice A ts.length c).ownBlock = some k ∨ w.heap.size ≤ k := fun k hk => by
      rcases hat6 with h | h
      · left; rw [← h]; exact hk
      · right;rw [h] at hk;injection hk with hk;simp at hk;omega
     have FIN := Hd (show aU (w6.setCell ⟨b,0,none⟩ (.slice A6 (ts.length + 1) c6)) B b r (.slice A6 (ts.length + 1) c6) (ts ++ [t]) room from ⟨hb7,hr7,hm7,HD4.leb,HD4.ler⟩);have HF7 := Hd F7;have HOWN := Hd hown;go_wp2_with fail;go_ret2;exact ⟨_,rfl,FIN,HF7,HOWN⟩
end
end Go.Proofs.YtfaapkpebnagmaaGreatDoor
