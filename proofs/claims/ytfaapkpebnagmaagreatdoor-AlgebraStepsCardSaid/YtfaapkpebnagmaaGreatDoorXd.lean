/- Texts of the proof, one behind the other: Ge, Gg, Gu. -/
import Derived.Test.YtfaapkpebnagmaaGreatDoorXa
import Derived.Test.YtfaapkpebnagmaaGreatDoorXc
import Derived.Lib.QuoteLoop
import Derived.Deep.CutBlock
import Derived.Deep.RegionLawGrows
import Derived.Deep.Cut
import Derived.Deep.CutRange
import Derived.WalkLawsBesides
import Derived.WalkSpells
import Derived.Deep.QuietTactic
import Derived.BigRegion
import Derived.BigQuiet
import Derived.Lib.Hide
import Derived.Outline
import Derived.Deep.RegionLaw
import Derived.Deep.RegionWith
import Derived.Deep.RegionHeld3
import Derived.Deep.LoopGhost
import Derived.Deep.DeepFit
import Derived.Laws.ResultCell
import Derived.Laws.RangeAny
import Derived.Deep.MidRow
import Derived.StillTailTactics
import Derived.OpenShut
import Derived.Laws.Runes
import Derived.OwnWalk
namespace Go.Proofs.YtfaapkpebnagmaaGreatDoor
open _root_.Go.Proofs.Tryz
open Go.RowKit Go
set_option linter.unusedVariables false
set_option maxRecDepth 100000
set_option maxHeartbeats 400000000
variable {g n pos B c e size i : Nat} {s : ByteArray} {xs : List Value} {A : Option Addr} {b : Bool} {v : Value}
def IsB (b : Bool) (w : World) (e : Ending) (w' : World) : Prop := e = .returned (.bool b) ∧ Fr (fun _ => False) w w'
theorem IsB.mk {w w' : World} (h : Fr (fun _ => False) w w') : IsB b w (.returned (.bool b)) w' := ⟨rfl,h⟩
theorem IsB.of {w w' : World} {c : Bool} (h : Fr (fun _ => False) w w') (hc : c = b) : IsB c w (.returned (.bool b)) w' := ⟨by rw [hc],h⟩
def bH (r : Int) : Int :=
 if r = 32 ∨ r = 9 ∨ r = 10 ∨ r = 13 then 0 else if (97 ≤ r ∧ r ≤ 122) ∨ (65 ≤ r ∧ r ≤ 90) then 1 else if 48 ≤ r ∧ r ≤ 57 then 2 else if 32 < r ∧ r ≤ 126 then 3 else if r < 160 then 4 else 5
theorem fZ (s : ByteArray) (p : Nat) : Lib.validRune ((Utf8.decode s p).1 : Int) = true := by
 have h := Lib.decodeN_valid (s.size - p) (s.get! p).toNat (s.get! (p + 1)).toNat (s.get! (p + 2)).toNat (s.get! (p + 3)).toNat (UInt8.toNat_lt _);rw [← Lib.decode_at] at h;simp only [Lib.validRune,decide_eq_true_eq];omega
theorem pT (r : Int) (w : World) (hv : Lib.validRune r = true) : Calls prog 147 #[.int .i32 r] w fun e w' => e = .returned (.int .i64 (bH r)) ∧ w = w' := by
 have HV := Tryz.utf8_ValidRune r w;rw [hv] at HV;obtain ⟨c,hc⟩ : ∃ c,c = bH r := ⟨_,rfl⟩;rw [← hc];have HC := Hd hc;clear hc hv;go_enter func147,ntmps147;go_wp2_with fail;refine HV.mono ?_;rintro e w1 ⟨rfl,rfl⟩;go_wp2_with fail
 all_goals (go_ret; refine ⟨congrArg (fun n => Ending.returned (.int .i64 n)) ?_,rfl⟩; rw [HC.out]; unfold bH; (try simp only [beq_iff_eq,beq_eq_false_iff_ne,ne_eq] at *); (repeat' split) <;> omega)
theorem jW (r : Int) (w : World) (hv : Lib.validRune r = true) : Calls prog 147 #[.int .i32 r] w fun e w' => e = .returned (.int .i64 (bH r)) ∧ w = w' := pT r w hv
def e8 (r : Int) : Bool := (bH r == 1) || (bH r == 2)
theorem mY (r : Int) (w : World) (hv : Lib.validRune r = true) : Calls prog 420 #[.int .i32 r] w fun e w' => e = .returned (.bool (e8 r)) ∧ w = w' := by
 have HC := Hd (jW r w hv);unfold e8;generalize bH r = c at *;by_cases h : c = 1
 · have h' : (c == 1) = true := by simp [h]
   clear h;rw [h',Bool.true_or];go_enter func420,ntmps420;go_wp2_with fail;refine HC.mono ?_;rintro e w1 ⟨rfl,rfl⟩;go_wp2_with fail;go_ret;exact ⟨rfl,rfl⟩
 · have h' : (c == 1) = false := by simp [h]
   clear h;rw [h',Bool.false_or];go_enter func420,ntmps420;go_wp2_with fail;refine HC.mono ?_;rintro e w1 ⟨rfl,rfl⟩;go_wp2_with fail;refine HC.mono ?_;rintro e w1 ⟨rfl,rfl⟩;go_wp2_with fail;go_ret;exact ⟨rfl,rfl⟩
def dL (w : World) (g : Nat) (s : ByteArray) (pos : Nat) : Prop := w.heap[g]? = some (.stringIter s pos)
def World.itSet (w : World) (g : Nat) (s : ByteArray) (pos : Nat) : World := { w with heap := w.heap.setIfInBounds g (.stringIter s pos) }
theorem dL.lt {w : World} (h : dL w g s pos) : g < w.heap.size := (Array.getElem?_eq_some_iff.1 h).1
theorem dL.set {w : World} (h : dL w g s pos) (p' : Nat) : dL (World.itSet w g s p') g s p' := by
 have := h.lt;show (w.heap.setIfInBounds g _)[g]? = _;simp [this]
theorem dL.frS {w : World} (h : dL w g s pos) (p' : Nat) : Fr (fun j => j = g) w (World.itSet w g s p') :=
 ⟨rfl,rfl,rfl,by simp [World.itSet],fun k hk hn => by
  show (w.heap.setIfInBounds g _)[k]? = _;rw [Array.getElem?_setIfInBounds_ne (fun e => hn e.symm)]⟩
theorem dL.fr {S : Nat → Prop} {w w' : World} (h : dL w g s pos) (hf : Fr S w w') (hn : ¬ S g) : dL w' g s pos := (hf.block g h.lt hn).trans h
theorem dL.new (w : World) (s : ByteArray) (p : Nat) : dL (w.iter s p) w.heap.size s p := World.iter_heap w s p
theorem dm {w : World} (h : dL w g s pos) (hp : pos < s.size) (ty : TypeId) :
    (Instr.next (.pointer (some ⟨g,0,none⟩)) true ty).run prog w = .ok (.tuple #[.bool true,.int .i64 pos,.int .i32 (Utf8.decode s pos).1]) (World.itSet w g s (pos + (Utf8.decode s pos).2)) := by
 unfold dL at h;simp [Instr.next,getObj,setObj,Sem.run_bind,Sem.run,h,Result.andThen,hp,World.itSet,goInt]
theorem bJ {w : World} (h : dL w g s pos) (hp : ¬ pos < s.size) (ty : TypeId) :
    (Instr.next (.pointer (some ⟨g,0,none⟩)) true ty).run prog w = .ok (.tuple #[.bool false]) w := by
 unfold dL at h;simp [Instr.next,getObj,Sem.run_bind,Sem.run,h,Result.andThen,hp]
theorem width_pos (s : ByteArray) (pos : Nat) (h : pos < s.size) : 1 ≤ (Utf8.decode s pos).2 := by
 by_cases ha : (s[pos]'h).toNat < 128
 · rw [decode_ascii s pos h ha];exact Nat.le_refl _
 · exact (decode_high s pos h jj).2
theorem Fr.shut {w w' : World} (h : Fr (fun j => n ≤ j) w w') (hn : w.heap.size ≤ n) : Fr (fun _ => False) w w' := ⟨h.os,h.tape,h.output,h.size,fun k hk _ => h.block k hk jj⟩
def okS (s : ByteArray) (p r : Nat) : Bool := !decide (r = 65533) || Lib.hasPrefix (s.extract p s.size).data.toList [239,191,189]
def aZ (s : ByteArray) (p : Nat) : Bool :=
 if h : p < s.size then okS s p (Utf8.decode s p).1 && aZ s (p + (Utf8.decode s p).2) else true
termination_by s.size - p
decreasing_by have := width_pos s p h; omega
theorem iL (s : ByteArray) (p : Nat) (h : p < s.size) : aZ s p = (okS s p (Utf8.decode s p).1 && aZ s (p + (Utf8.decode s p).2)) := by
 rw [aZ,dif_pos h]
theorem f9 (s : ByteArray) (p : Nat) (h : ¬ p < s.size) : aZ s p = true := by
 rw [aZ,dif_neg h]
def uO (s : ByteArray) (w : World) (e : Ending) (w' : World) : Prop := ∃ n : Int,e = .returned (.int .i64 n) ∧ decide (n < 0) = aZ s 0 ∧ Fr (fun _ => False) w w'
theorem mZ (s : ByteArray) (w : World) (hs : s.size ≤ 4096) : Calls prog 90 #[.string s] w (uO s w) := by
 go_enter func90,ntmps90;go_wp2_with fail
 go_loopg [3] (s.size) (fun g nv wr => ∃ (p : Nat) (n : Nat),nv = .int .i64 (n : Int) ∧ n ≤ p ∧ s.size ≤ p + g ∧ dL wr w.heap.size s p ∧ Fr (fun j => w.heap.size ≤ j) w wr ∧ aZ s p = aZ s 0)
 case atStart => exact ⟨0,0,rfl,Nat.le_refl _,by omega,dL.new w s 0,(Fr.refl _ _).alloc _,rfl⟩
 case round =>
  obtain ⟨p,n,rfl,hn,hg,hit,hf,htx⟩ := hrel;by_cases hp : p < s.size
  · have hnx := dm hit hp;have hwd := width_pos s p hp;have hit2 := hit.set (p + (Utf8.decode s p).2);have hf2 : Fr (fun j => w.heap.size ≤ j) w (World.itSet wr w.heap.size s (p + (Utf8.decode s p).2)) := hf.trans (hit.frS _) (fun i hi e => by omega);have hp1 : (p : Int) ≤ (s.size : Int) := jj;rw [iL s p hp] at htx;have HIT := Hd hit2;have HF := Hd hf2;generalize World.itSet wr w.heap.size s (p + (Utf8.decode s p).2) = w2 at *;generalize (Utf8.decode s p).2 = wd at *;generalize (Utf8.decode s p).1 = r at *;unfold okS at htx;have HTX := Hd htx;clear hit hf hit2 hf2 htx;by_cases hr : (r : Int) = 65533
    · have hr' : ((r : Int) == 65533) = true := by simp [hr]
      have HR := Hd (show decide (r = 65533) = true from FV);clear hr;go_wp2_with fail;refine (Tryz.strings_HasPrefix _ _ _).mono ?_;rintro e w3 ⟨rfl,rfl⟩;generalize hb : Lib.hasPrefix _ _ = b;have HB := Hd hb;clear hb;cases b with
      | true =>
       go_wp2_with fail
       go_roundg (s.size - (p + wd))
       case measure => omega
       case rel => exact ⟨p + wd,n + 1,by go_num,by omega,by omega,HIT.out,HF.out,by have h1 := HTX.out; have h2 := HB.out; rw [h2,HR.out] at h1; simpa using h1⟩
      | false =>
       go_wp2_with fail;go_ret;exact ⟨_,rfl,by have h1 := HTX.out; have h2 := HB.out; rw [h2,HR.out] at h1; rw [← h1]; simp,HF.shut (Nat.le_refl _)⟩
    · have hr' : ((r : Int) == 65533) = false := by simp [hr]
      have HR := Hd (show decide (r = 65533) = false from FX);clear hr;go_wp2_with fail
      go_roundg (s.size - (p + wd))
      case measure => omega
      case rel => exact ⟨p + wd,n + 1,by go_num,by omega,by omega,HIT.out,HF.out,by have h1 := HTX.out; rw [HR.out] at h1; simpa using h1⟩
  · have hnx := bJ hit hp;rw [f9 s p hp] at htx;have HTX := Hd htx;clear hit htx;go_wp2_with fail;go_ret;exact ⟨_,rfl,by rw [← HTX.out]; rfl,hf.shut (Nat.le_refl _)⟩
theorem pU (s : ByteArray) (w : World) (hs : s.size ≤ 4096) : Calls prog 416 #[.string s] w (IsB (aZ s 0) w) := by
 go_enter func416,ntmps416;go_wp2_with fail;refine (mZ s w hs).mono ?_;rintro e w1 ⟨n,rfl,hd,hf⟩;have HD := Hd hd;clear hd;go_wp2_with fail;go_ret;exact IsB.of hf HD.symm
def fx (r : Int) : Bool := decide (r = 60 ∨ r = 62 ∨ r = 34 ∨ r = 123 ∨ r = 125 ∨ r = 124 ∨ r = 94 ∨ r = 96 ∨ r = 92)
theorem wJ : ∀ k : Fin 128,decide (0 ≤ Lib.indexByte [60,62,34,123,125,124,94,96,92] (k : Nat).toUInt8) = fx ((k : Nat) : Int) := dk
theorem wK (r : Int) (h0 : 0 ≤ r) (h : r < 128) : decide (0 ≤ Lib.indexByte [60,62,34,123,125,124,94,96,92] r.toNat.toUInt8) = fx r := by
 have := wJ ⟨r.toNat,by omega⟩;simp only at this;rw [this];congr 1;omega
theorem uR (r : Int) (h : 128 ≤ r) : fx r = false := FX
def pV (b : Bool) (w : World) (e : Ending) (w' : World) : Prop := ∃ n : Int,e = .returned (.int .i64 n) ∧ decide (0 ≤ n) = b ∧ Fr (fun _ => False) w w'
theorem index_none (c : UInt8) (hc : 128 ≤ c.toNat) : ∀ l : List UInt8,(∀ x ∈ l,x.toNat < 128) → Lib.indexByte l c = -1
 | [],_ => rfl
 | x :: l,h => by
  have hx := h x (by simp);have ih := index_none c hc l (fun y hy => h y (by simp [hy]));have hne : ¬ x = c := fun e => by rw [e] at hx; omega
  unfold Lib.indexByte;simp [hne,ih]
theorem pW (s : ByteArray) (w : World) (hs : s.size ≤ 4096) (hA : ∀ p (h : p < s.size),(s[p]'h).toNat < 128) : Calls prog 418 #[.string s,.int .i32 65533] w (pV false w) := by
 have HA := Hd hA;clear hA;go_enter func418,ntmps418;go_wp2_with fail
 go_loopg [] (s.size) (fun g wr => ∃ (p : Nat),s.size ≤ p + g ∧ dL wr w.heap.size s p ∧ Fr (fun j => w.heap.size ≤ j) w wr)
 case atStart => exact ⟨0,by omega,dL.new w s 0,(Fr.refl _ _).alloc _⟩
 case round =>
  obtain ⟨p,hg,hit,hf⟩ := hrel;by_cases hp : p < s.size
  · have hnx := dm hit hp;have hwd := width_pos s p hp;have hr1 : (Utf8.decode s p).1 < 128 := by rw [decode_ascii s p hp (HA.out p hp)]; exact HA.out p hp
    have hit2 := hit.set (p + (Utf8.decode s p).2);have hf2 : Fr (fun j => w.heap.size ≤ j) w (World.itSet wr w.heap.size s (p + (Utf8.decode s p).2)) := hf.trans (hit.frS _) (fun i hi e => by omega);have HIT := Hd hit2;have HF := Hd hf2;generalize World.itSet wr w.heap.size s (p + (Utf8.decode s p).2) = w2 at *;generalize (Utf8.decode s p).2 = wd at *;generalize (Utf8.decode s p).1 = r at *;clear hit hf hit2 hf2;have hr' : ((r : Int) == 65533) = false := by simp; omega
    go_wp2_with fail
    go_roundg (s.size - (p + wd))
    case measure => omega
    case rel => exact ⟨p + wd,by omega,HIT,HF⟩
  · have hnx := bJ hit hp;clear hit;go_wp2_with fail;go_ret;exact ⟨_,rfl,rfl,hf.shut (Nat.le_refl _)⟩
theorem pX (r : Int) (w : World) (h0 : 0 ≤ r) (hvr : Lib.validRune r = true) : Calls prog 418 #[.string ⟨#[60,62,34,123,125,124,94,96,92]⟩,.int .i32 r] w (pV (fx r) w) := by
 by_cases h1 : r < 128
 · have h1' : decide (r < 128) = true := decide_eq_true h1;have HFB := Hd (wK r h0 h1);go_enter func418,ntmps418;go_wp2_with fail;refine (Tryz.strings_IndexByte _ _ _).mono ?_;rintro e w1 ⟨rfl,rfl⟩;go_wp2_with fail;go_ret;exact ⟨_,rfl,HFB,Fr.refl _ _⟩
 · have h1' : decide (r < 128) = false := decide_eq_false h1;rw [uR r jj];by_cases h2 : r = 65533
   · have h2' : (r == 65533) = true := by simp [h2]
     subst h2;exact pW _ w de de
   · have h2' : (r == 65533) = false := by simp [h2]
     have hv := Tryz.utf8_ValidRune r w;obtain ⟨b,hb⟩ : ∃ b,Lib.validRune r = b := ⟨_,rfl⟩;rw [hb] at hv;cases b with
     | false => rw [hvr] at hb; cases hb
     | true =>
      have hu : Utf8.valid r = true := by
       simp only [Lib.validRune,decide_eq_true_eq] at hb;simp only [Utf8.valid,Bool.or_eq_true,Bool.and_eq_true,decide_eq_true_eq];omega
      obtain ⟨e1,e2,e3⟩ := encode_facts r hu jj;have hcv := fun wx => run_convert_int_string (P := prog) wx 21 9 .i32 r kr underlying9;generalize Utf8.encode r = B at *;obtain hm | hm | hm : B.size = 2 ∨ B.size = 3 ∨ B.size = 4 := jj
      · obtain ⟨i,hi⟩ : ∃ i,i = B.size - 1 := ⟨_,rfl⟩;simp only [← hi] at e3;have hi2 : i = 1 := jj;subst hi2;obtain ⟨c,hc⟩ : ∃ c,B[1]'jj = c := ⟨_,rfl⟩;have e4 : 128 ≤ c.toNat := by rw [← hc]; exact e3 jj
        have e5 : c.toNat ≤ 255 := by have := c.toNat_lt; omega
        have hne : ((((⟨#[60,62,34,123,125,124,94,96,92]⟩ : ByteArray)[1]'de).toNat : Int) != (c.toNat : Int)) = true := by
         show (((62 : Nat) : Int) != (c.toNat : Int)) = true;rw [bne_iff_ne];omega
        have hN : Lib.indexByte [34,123,125,124,94,96,92] c = -1 := index_none c e4 [34,123,125,124,94,96,92] de;clear e1 e2 e3 hi;go_enter func418,ntmps418;go_wp2_with fail;refine hv.mono ?_;rintro e w1 ⟨rfl,rfl⟩;go_wp2_with fail
        go_step3;go_wp2_with fail
        go_loopg [9,10,12] (0) (fun g a b c wr => a = .int .i64 1 ∧ b = .int .i64 0 ∧ wr = w1)
        case atStart => exact ⟨rfl,rfl,rfl⟩
        case round =>
         obtain ⟨rfl,rfl,rfl⟩ := hrel;have hwr : IntKind.i64.wrap 2 = 2 := de;clear hv;go_wp2_with fail
         go_step3;go_wp2_with fail
         go_quiet (fail);have hq : Fr (fun _ => False) wr (wr.drewN nq) := (Fr.refl _ _).drewN nq;generalize wr.drewN nq = w2 at hq ⊢;go_wp2_with fail
         go_quiet ((go_at_call 415; exact Calls.quiet_of_same (Tryz.strings_IndexByte _ _ _)));have hq' : Fr (fun _ => False) wr (w2.drewN nq) := hq.drewN nq;go_wp2_with fail;rw [Exit.noGoto_ret];go_ret;exact ⟨_,rfl,rfl,hq'⟩
      · obtain ⟨i,hi⟩ : ∃ i,i = B.size - 1 := ⟨_,rfl⟩;simp only [← hi] at e3;have hi2 : i = 2 := jj;subst hi2;obtain ⟨c,hc⟩ : ∃ c,B[2]'jj = c := ⟨_,rfl⟩;have e4 : 128 ≤ c.toNat := by rw [← hc]; exact e3 jj
        have e5 : c.toNat ≤ 255 := by have := c.toNat_lt; omega
        have hne : ((((⟨#[60,62,34,123,125,124,94,96,92]⟩ : ByteArray)[2]'de).toNat : Int) != (c.toNat : Int)) = true := by
         show (((34 : Nat) : Int) != (c.toNat : Int)) = true;rw [bne_iff_ne];omega
        have hN : Lib.indexByte [123,125,124,94,96,92] c = -1 := index_none c e4 [123,125,124,94,96,92] de;clear e1 e2 e3 hi;go_enter func418,ntmps418;go_wp2_with fail;refine hv.mono ?_;rintro e w1 ⟨rfl,rfl⟩;go_wp2_with fail
        go_step3;go_wp2_with fail
        go_loopg [9,10,12] (0) (fun g a b c wr => a = .int .i64 2 ∧ b = .int .i64 0 ∧ wr = w1)
        case atStart => exact ⟨rfl,rfl,rfl⟩
        case round =>
         obtain ⟨rfl,rfl,rfl⟩ := hrel;have hwr : IntKind.i64.wrap 3 = 3 := de;clear hv;go_wp2_with fail
         go_step3;go_wp2_with fail
         go_quiet (fail);have hq : Fr (fun _ => False) wr (wr.drewN nq) := (Fr.refl _ _).drewN nq;generalize wr.drewN nq = w2 at hq ⊢;go_wp2_with fail
         go_quiet ((go_at_call 415; exact Calls.quiet_of_same (Tryz.strings_IndexByte _ _ _)));have hq' : Fr (fun _ => False) wr (w2.drewN nq) := hq.drewN nq;go_wp2_with fail;rw [Exit.noGoto_ret];go_ret;exact ⟨_,rfl,rfl,hq'⟩
      · obtain ⟨i,hi⟩ : ∃ i,i = B.size - 1 := ⟨_,rfl⟩;simp only [← hi] at e3;have hi2 : i = 3 := jj;subst hi2;obtain ⟨c,hc⟩ : ∃ c,B[3]'jj = c := ⟨_,rfl⟩;have e4 : 128 ≤ c.toNat := by rw [← hc]; exact e3 jj
        have e5 : c.toNat ≤ 255 := by have := c.toNat_lt; omega
        have hne : ((((⟨#[60,62,34,123,125,124,94,96,92]⟩ : ByteArray)[3]'de).toNat : Int) != (c.toNat : Int)) = true := by
         show (((123 : Nat) : Int) != (c.toNat : Int)) = true;rw [bne_iff_ne];omega
        have hN : Lib.indexByte [125,124,94,96,92] c = -1 := index_none c e4 [125,124,94,96,92] de;clear e1 e2 e3 hi;go_enter func418,ntmps418;go_wp2_with fail;refine hv.mono ?_;rintro e w1 ⟨rfl,rfl⟩;go_wp2_with fail
        go_step3;go_wp2_with fail
        go_loopg [9,10,12] (0) (fun g a b c wr => a = .int .i64 3 ∧ b = .int .i64 0 ∧ wr = w1)
        case atStart => exact ⟨rfl,rfl,rfl⟩
        case round =>
         obtain ⟨rfl,rfl,rfl⟩ := hrel;have hwr : IntKind.i64.wrap 4 = 4 := de;clear hv;go_wp2_with fail
         go_step3;go_wp2_with fail
         go_quiet (fail);have hq : Fr (fun _ => False) wr (wr.drewN nq) := (Fr.refl _ _).drewN nq;generalize wr.drewN nq = w2 at hq ⊢;go_wp2_with fail
         go_quiet ((go_at_call 415; exact Calls.quiet_of_same (Tryz.strings_IndexByte _ _ _)));have hq' : Fr (fun _ => False) wr (w2.drewN nq) := hq.drewN nq;go_wp2_with fail;rw [Exit.noGoto_ret];go_ret;exact ⟨_,rfl,rfl,hq'⟩
theorem oE (r : Int) (w : World) (h0 : 0 ≤ r) (hvr : Lib.validRune r = true) : Calls prog 417 #[.string ⟨#[60,62,34,123,125,124,94,96,92]⟩,.int .i32 r] w (IsB (fx r) w) := by
 have HX := Hd (fun w => pX r w h0 hvr);clear hvr;generalize fx r = b at *;go_enter func417,ntmps417;go_wp2_with fail;refine (HX _).mono ?_;rintro e w1 ⟨n,rfl,hd,hf⟩;have HD := Hd hd;clear hd;go_wp2_with fail;go_ret;exact IsB.of hf HD.symm
def ge (r : Int) : Bool := !(bH r == 0 || bH r == 4 || fx r)
def dz (s : ByteArray) (p : Nat) : Bool :=
 if h : p < s.size then ge ((Utf8.decode s p).1 : Int) && dz s (p + (Utf8.decode s p).2) else true
termination_by s.size - p
decreasing_by have := width_pos s p h; omega
theorem jk (s : ByteArray) (p : Nat) (h : p < s.size) : dz s p = (ge ((Utf8.decode s p).1 : Int) && dz s (p + (Utf8.decode s p).2)) := by
 rw [dz,dif_pos h]
theorem gN (s : ByteArray) (p : Nat) (h : ¬ p < s.size) : dz s p = true := by
 rw [dz,dif_neg h]
def eu (s : ByteArray) : Bool := !decide (Lib.indexByte s.data.toList 58 < 1) && (aZ s 0 && dz s 0)
theorem tN (s : ByteArray) (w : World) (hs : s.size ≤ 4096) : Calls prog 414 #[.agg #[.string s]] w (IsB (eu s) w) := by
 have HIG := Hd (show eu s = (!decide (Lib.indexByte s.data.toList (58 : Int).toNat.toUInt8 < 1) && (aZ s 0 && dz s 0)) from rfl);generalize eu s = ig at *;have hs' : decide (4096 < (s.size : Int)) = false := FX;have HIX := Hd (fun w => Tryz.strings_IndexByte s 58 w);have HG := Hd (fun w => pU s w hs);generalize Lib.indexByte s.data.toList (58 : Int).toNat.toUInt8 = ix at HIX HIG;generalize htf : aZ s 0 = tf at HG HIG;clear htf;have F0 := Fr.a1 w (.cells #[.string s] 207);have hb := Blk.new w 207 #[.string s];by_cases h1 : ix < 1
 · have h1' : decide (ix < 1) = true := decide_eq_true h1;go_enter func414,ntmps414;go_wp2_with fail;refine (HIX _).mono ?_;rintro e w1 ⟨rfl,rfl⟩;go_wp2_with fail;go_ret;exact IsB.of F0 (by rw [HIG.out]; simp [h1])
 · have h1' : decide (ix < 1) = false := decide_eq_false h1;go_enter func414,ntmps414;go_wp2_with fail;refine (HIX _).mono ?_;rintro e w1 ⟨rfl,rfl⟩;go_wp2_with fail;refine (HG _).mono ?_;rintro e w2 ⟨rfl,hf2⟩;have hb2 := hb.fr hf2 id;have c0 := hb2.c0;have F2 := F0.trans' hf2;have HF2 := Hd F2;clear hf2 hb2 hb F0 F2;have HH := Hd h1';cases tf with
   | false =>
    go_wp2_with fail;go_ret;exact IsB.of HF2 (by rw [HIG.out]; simp)
   | true =>
    go_wp2_with fail
    go_loopg [] (s.size) (fun g wr => ∃ (p : Nat),s.size ≤ p + g ∧ dL wr w2.heap.size s p ∧ Fr (fun j => w2.heap.size ≤ j) w2 wr ∧ dz s p = dz s 0)
    case atStart => exact ⟨0,by omega,dL.new w2 s 0,(Fr.refl _ _).alloc _,rfl⟩
    case round =>
     obtain ⟨p,hg,hit,hf,htx⟩ := hrel;clear c0;by_cases hp : p < s.size
     · have hnx := dm hit hp;have hwd := width_pos s p hp;have hit2 := hit.set (p + (Utf8.decode s p).2);have hf2 : Fr (fun j => w2.heap.size ≤ j) w2 (World.itSet wr w2.heap.size s (p + (Utf8.decode s p).2)) := hf.trans (hit.frS _) (fun i hi e => by omega);rw [jk s p hp] at htx;have hvr := fZ s p;have HIT := Hd hit2;have HF := Hd hf2;generalize World.itSet wr w2.heap.size s (p + (Utf8.decode s p).2) = w3 at *;generalize (Utf8.decode s p).2 = wd at *;generalize (Utf8.decode s p).1 = r at *;have hr0 : (0 : Int) ≤ (r : Int) := jj;have HC := Hd (fun w => jW r w hvr);have HCO := Hd (fun w => oE r w hr0 hvr);unfold ge at htx;generalize bH (r : Int) = c at *;generalize fx (r : Int) = fb at *;have HTX := Hd htx;clear hit hf hit2 hf2 htx hvr;go_wp2_with fail;refine (HC.out w3).mono ?_;rintro e w4 ⟨rfl,rfl⟩;by_cases h2 : c = 0
       · have h2' : (c == 0) = true := by simp [h2]
         have H2 := Hd h2;clear h2;go_wp2_with fail;go_ret;exact IsB.of (HF2.trans' (HF.shut (Nat.le_refl _))) (by rw [HIG.out,← HTX.out,H2.out]; simp)
       · have h2' : (c == 0) = false := by simp [h2]
         by_cases h3 : c = 4
         · have h3' : (c == 4) = true := by simp [h3]
           have H3 := Hd h3;clear h2 h3;go_wp2_with fail;go_ret;exact IsB.of (HF2.trans' (HF.shut (Nat.le_refl _))) (by rw [HIG.out,← HTX.out,H3.out]; simp)
         · have h3' : (c == 4) = false := by simp [h3]
           clear h2 h3;go_wp2_with fail;refine (HCO.out w3).mono ?_;rintro e w4 ⟨rfl,hf4⟩;have HF4 := Hd hf4;clear hf4;cases fb with
           | true =>
            go_wp2_with fail;go_ret;exact IsB.of (HF2.trans' ((HF.trans HF4.out uu).shut (Nat.le_refl _))) (by rw [HIG.out,← HTX.out]; simp)
           | false =>
            go_wp2_with fail
            go_roundg (s.size - (p + wd))
            case measure => omega
            case rel => exact ⟨p + wd,by omega,HIT.out.fr HF4.out id,HF.out.trans HF4.out uu,by have h := HTX.out; rw [h2',h3'] at h; simpa using h⟩
     · have hnx := bJ hit hp;rw [gN s p hp] at htx;have HTX := Hd htx;clear hit htx;go_wp2_with fail;go_ret;exact IsB.of (HF2.trans' (hf.shut (Nat.le_refl _))) (by rw [HIG.out,← HTX.out,HH.out]; simp)
def im (p : Nat) (r : Int) : Bool := e8 r || (!decide (p = 0) && (decide (r = 95) || decide (r = 45)))
def bS (s : ByteArray) (p : Nat) : Bool :=
 if h : p < s.size then im p ((Utf8.decode s p).1 : Int) && bS s (p + (Utf8.decode s p).2) else true
termination_by s.size - p
decreasing_by have := width_pos s p h; omega
theorem gO (s : ByteArray) (p : Nat) (h : p < s.size) : bS s p = (im p ((Utf8.decode s p).1 : Int) && bS s (p + (Utf8.decode s p).2)) := by
 rw [bS,dif_pos h]
theorem fy (s : ByteArray) (p : Nat) (h : ¬ p < s.size) : bS s p = true := by
 rw [bS,dif_neg h]
def eB (s : ByteArray) : Bool := bS s 0 && (!s.toList.isEmpty && decide (s.size ≤ 100))
theorem uS (s : ByteArray) (w : World) (hs : s.size ≤ 4096) : Calls prog 419 #[.agg #[.string s]] w (IsB (eB s) w) := by
 have HBG := Hd (show eB s = (bS s 0 && (!s.toList.isEmpty && decide (s.size ≤ 100))) from rfl);generalize eB s = bg at *;have F0 := Fr.a1 w (.cells #[.string s] 214);have hb := Blk.new w 214 #[.string s];go_enter func419,ntmps419;go_wp2_with fail;have hsz : w.heap.size + 1 = (w.alloc (.cells #[.string s] 214)).heap.size := by simp
 have HB := Hd hb;have HF0 := Hd F0
 go_loopg [] (s.size) (fun g wr => ∃ (p : Nat),s.size ≤ p + g ∧ dL wr (w.heap.size + 1) s p ∧ Fr (fun j => w.heap.size + 1 ≤ j) (w.alloc (.cells #[.string s] 214)) wr ∧ bS s p = bS s 0)
 case atStart => exact ⟨0,by omega,by rw [hsz]; exact dL.new _ s 0,(Fr.refl _ _).alloc _,rfl⟩
 case round =>
  obtain ⟨p,hg,hit,hf,htx⟩ := hrel;clear F0 hb;have hFe := HF0.trans' (hf.shut (by simp));have HFE := Hd hFe;have hbr := HB.fr hf jj;have c0 := hbr.c0;by_cases hp : p < s.size
  · have hnx := dm hit hp;have hwd := width_pos s p hp;have hit2 := hit.set (p + (Utf8.decode s p).2);have hf2 : Fr (fun j => w.heap.size + 1 ≤ j) (w.alloc (.cells #[.string s] 214)) (World.itSet wr (w.heap.size + 1) s (p + (Utf8.decode s p).2)) := hf.trans (hit.frS _) (fun i hi e => by omega);rw [gO s p hp] at htx;have hvr := fZ s p;have HIT := Hd hit2;have HF := Hd hf2;generalize World.itSet wr (w.heap.size + 1) s (p + (Utf8.decode s p).2) = w3 at *;generalize (Utf8.decode s p).2 = wd at *;generalize (Utf8.decode s p).1 = r at *;have HPL := Hd (fun w => mY r w hvr);unfold im at htx;generalize e8 (r : Int) = pl at *;have HTX := Hd htx;clear hit hf hit2 hf2 hsz hbr c0 hFe htx hvr;have fin : Fr (fun _ => False) w w3 := HF0.trans' (HF.shut (by simp));have FIN := Hd fin;clear fin;go_wp2_with fail;refine (HPL.out w3).mono ?_;rintro e w4 ⟨rfl,rfl⟩;cases pl with
    | true =>
     go_wp2_with fail
     go_roundg (s.size - (p + wd))
     case measure => omega
     case rel => exact ⟨p + wd,by omega,HIT.out,HF.out,by have h := HTX.out; simpa using h⟩
    | false =>
     by_cases h0 : p = 0
     · subst h0;go_wp2_with fail;go_ret;exact IsB.of FIN (by rw [HBG.out,← HTX.out]; simp)
     · have HP0 := Hd h0;have h0' : ((p : Int) == 0) = false := by simp [h0]
       by_cases h1 : (r : Int) = 95
       · have h1' : ((r : Int) != 95) = false := by simp [h1]
         have H1 := Hd h1;clear h1;go_wp2_with fail
         go_roundg (s.size - (p + wd))
         case measure => omega
         case rel => exact ⟨p + wd,by omega,HIT.out,HF.out,by have h := HTX.out; simpa [HP0.out,H1.out] using h⟩
       · have h1' : ((r : Int) != 95) = true := by simp [h1]
         have H1 := Hd h1;clear h1;by_cases h2 : (r : Int) = 45
         · have h2' : ((r : Int) != 45) = false := by simp [h2]
           have H2 := Hd h2;clear h2;go_wp2_with fail
           go_roundg (s.size - (p + wd))
           case measure => omega
           case rel => exact ⟨p + wd,by omega,HIT.out,HF.out,by have h := HTX.out; simpa [HP0.out,H2.out] using h⟩
         · have h2' : ((r : Int) != 45) = true := by simp [h2]
           have H2 := Hd h2;clear h2;go_wp2_with fail;go_ret;exact IsB.of FIN (by rw [HBG.out,← HTX.out]; simp [H1.out,H2.out])
  · have hnx := bJ hit hp;rw [fy s p hp] at htx;have HTX := Hd htx;clear hit hsz hbr htx;by_cases he : s.toList = []
    · have he' : s.toList.isEmpty = true := by rw [he]; rfl
      have HE := Hd he';clear he;go_wp2_with fail;go_ret;exact IsB.of HFE (by rw [HBG.out,HE.out]; simp)
    · have he' : s.toList.isEmpty = false := by
       cases ht : s.toList with
       | nil => exact absurd ht he
       | cons a l => rfl
      have HE := Hd he';by_cases hq : s.size ≤ 100
      · have hq1 : decide (s.size ≤ 100) = true := decide_eq_true hq;have hq2 : decide ((s.size : Int) ≤ 100) = true := FV;have hq3 : (s.size : Int) ≤ 100 := jj;have HQ := Hd hq1;go_wp2_with fail;go_ret;exact IsB.of HFE (by rw [HBG.out,HE.out,← HTX.out,HQ.out]; rfl)
      · have hq1 : decide (s.size ≤ 100) = false := decide_eq_false hq;have hq2 : decide ((s.size : Int) ≤ 100) = false := FX;have hq3 : (100 : Int) < (s.size : Int) := jj;have HQ := Hd hq1;go_wp2_with fail;go_ret;exact IsB.of HFE (by rw [HBG.out,HE.out,← HTX.out,HQ.out]; rfl)
theorem info_parts {P : Program} {t : TypeId} {z : Value} {b : Nat} (h : (P.info? t).map (fun i => (i.zero,i.size,i.bytes)) = some (some z,n,b)) : ∃ i,P.info? t = some i ∧ i.zero = some z ∧ i.size = n ∧ i.bytes = b := by
 cases hi : P.info? t with
 | none => rw [hi] at h; cases h
 | some i =>
  rw [hi] at h;simp only [Option.map_some,Option.some.injEq,Prod.mk.injEq] at h;exact ⟨i,rfl,h.1,h.2.1,h.2.2⟩
theorem Co : (prog.info? 9).map (fun i => (i.zero,i.size,i.bytes)) = some (some (.string ⟨#[]⟩),1,16) := kr
theorem jl (c : UInt8) : ∀ l : List UInt8,Lib.indexByte l c < (l.length : Int) ∨ Lib.indexByte l c = -1
 | [] => .inr rfl
 | x :: l => by
  unfold Lib.indexByte;by_cases h : x == c
  · rw [if_pos h]; left; simp
  · rw [if_neg h];by_cases h2 : (Lib.indexByte l c == -1) = true
    · rw [if_pos h2]; exact .inr rfl
    · rw [if_neg h2];rcases jl c l with h3 | h3
      · left; simp; omega
      · simp [h3] at h2
theorem jm {w : World} {m : Nat} (h : w.ownsRow B e 1 (.slice A n c) n xs) (hm : m ≤ n) (h0 : 0 < n) : w.ownsRow B e 1 (.slice A m c) m (xs.take m) := by
 refine ⟨by rw [List.length_take,h.1]; omega,?_⟩;rcases h.2 with ⟨_,h2⟩ | ⟨g,cap,cur,h1,hb,hg,hc,hm2,hs,ht⟩
 · omega
 · injection h1 with h3 _ h4;subst h3 h4;exact .inr ⟨g,c,cur,rfl,hb,hg,by omega,hm2,hs,by rw [← ht,List.take_take]; congr 1; omega⟩
theorem zP {α : Type} {l : List α} {x y : α} (h : y ∈ l.set i x) : y = x ∨ y ∈ l := by
 rcases List.mem_or_eq_of_mem_set h with h | h
 · exact .inr h
 · exact .inl h
theorem rP {w : World} {ts : List ByteArray} {r : ByteArray} (h : w.ownsRow B 9 1 (.slice (some ⟨g,0,none⟩) n c) n (ts.map .string)) (hts : ∀ t ∈ ts,t.size ≤ 40) (hr : r.size ≤ 40) :
    (w.setCell ⟨g,i,none⟩ (.string r)).ownsRow B 9 1 (.slice (some ⟨g,0,none⟩) n c) n ((ts.set i r).map .string) ∧ (∀ t ∈ ts.set i r,t.size ≤ 40) ∧ Fr (fun j => j = g) w (w.setCell ⟨g,i,none⟩ (.string r)) := by
 have st := World.ownsRow.stored h i (.string r);refine ⟨by rw [List.map_set]; exact st.1,fun t ht => ?_,(Fr.of_grown st.2).mono (fun _ _ e => by injection e with e; exact e.symm)⟩;rcases zP ht with rfl | ht
 · exact hr
 · exact hts t ht
def gh : Nat → ByteArray → List ByteArray
 | 0,r => [r]
 | n + 1,r => if Lib.indexByte r.data.toList 45 < 0 then [r] else r.extract 0 (Lib.indexByte r.data.toList 45).toNat :: gh n (r.extract (Lib.indexByte r.data.toList 45 + 1).toNat r.size)
def fa (s : ByteArray) : List ByteArray := gh (Lib.countByte s.data.toList 45) s
theorem take_set {α : Type} (l : List α) (i : Nat) (x : α) (h : i < l.length) : (l.set i x).take (i + 1) = l.take i ++ [x] := by
 apply List.ext_getElem?;intro j;rw [List.getElem?_take];by_cases hj : j < i
 · rw [if_pos jj,List.getElem?_set_ne jj,List.getElem?_append_left (by rw [List.length_take]; omega),List.getElem?_take,if_pos hj]
 · by_cases hji : j = i
   · subst hji;rw [if_pos jj,List.getElem?_set_self h,List.getElem?_append_right (by rw [List.length_take]; omega)];simp [List.length_take,Nat.min_eq_left (Nat.le_of_lt h)]
   · rw [if_neg jj,List.getElem?_eq_none (by simp; omega)]
def m5 (s : ByteArray) (w : World) (e : Ending) (w' : World) : Prop :=
 ∃ (A : Option Addr) (n c : Nat),e = .returned (.slice A n c) ∧ w'.ownsRow w.heap.size 9 1 (.slice A n c) n ((fa s).map .string) ∧ (∀ t ∈ fa s,t.size ≤ 40) ∧ n ≤ 41 ∧ Fr (fun _ => False) w w'
theorem oF (s : ByteArray) (w : World) (hs : s.size ≤ 40) : Calls prog 424 #[.string s,.string ⟨#[45]⟩,.int .i64 0,.int .i64 (-1)] w (m5 s w) := by
 have HSO := Hd (show fa s = gh (Lib.countByte s.data.toList 45) s from rfl);obtain ⟨so,hso⟩ : ∃ so,so = fa s := ⟨_,rfl⟩;rw [← hso] at HSO;have HSE := Hd hso;clear hso;obtain ⟨i9,hi9,hz90,hz91,hz92⟩ := info_parts Co;have hcnt : Lib.countByte s.data.toList 45 ≤ s.size := by
  have := List.count_le_length (a := (45 : UInt8)) (l := s.data.toList);have e : s.data.toList.length = s.size := by simp
  unfold Lib.countByte;omega
 have HC := Hd (fun w => Tryz.strings_Count_one s 45 w);generalize Lib.countByte s.data.toList 45 = cnt at *;have hmin : min (cnt : Int) (s.size : Int) = (cnt : Int) := jj;go_enter func424,ntmps424;go_wp2_with fail;refine (HC.out w).mono ?_;rintro e w1 ⟨rfl,rfl⟩;go_wp2_with (at_make; refine wpList_make_full _ rfl _ _ 31 rfl w1.heap.size 9 i9 _ 1 underlying31 hi9 hz90 hz91 _ _ _ _ (cnt + 1) (by rfl) (by rfl) rfl rfl (by rw [hz92]; omega) (by unfold maxLen; omega) jj ?_; intro w4 hrow hgr4);have hf4 : Fr (fun j => w1.heap.size ≤ j) w1 w4 := (Fr.of_grown hgr4).mono (fun _ _ e => by cases e);have hse : (madeCells (Value.string ⟨#[]⟩).cells ((cnt + 1) * 1)).toList = (List.replicate (cnt + 1) (⟨#[]⟩ : ByteArray)).map Value.string := by
  rw [show (Value.string ⟨#[]⟩).cells = #[Value.string ⟨#[]⟩] from rfl,toList_madeCells_one,Nat.mul_one,List.map_replicate]
 rw [hse] at hrow;have HF4 := Hd hf4;have HR4 := Hd hrow;clear hse hrow hgr4 hf4 hmin;go_wp2_with fail
 go_loopw [0,10] (fun sv iv wr => ∃ (r : ByteArray) (i : Nat) (ts : List ByteArray),sv = .string r ∧ iv = .int .i64 (i : Int) ∧ r.size ≤ s.size ∧ i ≤ cnt ∧ wr.ownsRow w1.heap.size 9 1 (.slice (some ⟨w1.heap.size,0,none⟩) (cnt + 1) (cnt + 1)) (cnt + 1) (ts.map .string) ∧ (∀ t ∈ ts,t.size ≤ 40) ∧ Fr (fun j => w1.heap.size ≤ j) w1 wr ∧ ts.take i ++ gh (cnt - i) r = so) (fun _ iv _ => cnt - (intOf iv).toNat)
 case atStart => exact ⟨s,0,_,rfl,rfl,Nat.le_refl _,Nat.zero_le _,HR4,(fun t ht => by rw [List.eq_of_mem_replicate ht]; decide),HF4,by rw [HSO.out]; simp⟩
 case round =>
  obtain ⟨r,i,ts,rfl,rfl,hr,hi,hrow,hts,hf,hsp⟩ := hrel;have HSP := Hd hsp;clear hsp;have hrs : (r.size : Int) ≤ 40 := jj;have hszr := hf.size;have g0 : ∀ j,wr.frozen? ⟨w1.heap.size,j,none⟩ = false := fun j => World.ownsRow.frozenAt hrow j;have gi := g0 i;have hlen : ts.length = cnt + 1 := by have := hrow.1; simpa using this
  have hci : wr.cell? ⟨w1.heap.size,i,none⟩ = some (.string (ts.getD i ⟨#[]⟩)) := by
   rw [World.ownsRow.cellAt hrow i jj,List.getElem?_map,List.getD_eq_getElem?_getD];rw [List.getElem?_eq_getElem jj];rfl
  have fin := Hd (fun (t : ByteArray) (ht : t.size ≤ 40) => rP (i := i) hrow hts ht);have HF := Hd hf;clear g0 hrow hf hts;by_cases hlt2 : i < cnt
  · have hlt3 : (i : Int) < (cnt : Int) := jj;have HSTEP := Hd (show gh (cnt - i) r = if Lib.indexByte r.data.toList 45 < 0 then [r] else r.extract 0 (Lib.indexByte r.data.toList 45).toNat :: gh (cnt - (i + 1)) (r.extract (Lib.indexByte r.data.toList 45 + 1).toNat r.size) by
     obtain ⟨k,hk⟩ : ∃ k,cnt - i = k + 1 := ⟨cnt - i - 1,by omega⟩;rw [hk,show cnt - (i + 1) = k by omega];rfl)
    have hix := jl 45 r.data.toList;have el : (r.data.toList.length : Int) = (r.size : Int) := by simp
    rw [el] at hix;have HI := Hd (fun w => Tryz.strings_Index_one r 45 w);generalize Lib.indexByte r.data.toList 45 = m at *;clear el;by_cases hm : m < 0
    · have hm' : decide (m < 0) = true := decide_eq_true hm;go_wp2_with fail;refine (HI _).mono ?_;rintro e w5 ⟨rfl,rfl⟩;go_wp2_with fail;go_ret;have T := fin.out r jj;have E : so = (ts.set i r).take (i + 1) := by
       rw [← HSP.out,HSTEP.out,if_pos hm,take_set _ _ _ jj]
      exact ⟨_,i + 1,_,rfl,by rw [← HSE.out,E,List.map_take]; exact jm T.1 jj jj,fun t ht => by rw [← HSE.out,E] at ht; exact T.2.1 t (List.mem_of_mem_take ht),by omega,(HF.trans T.2.2 (fun j hj e => by omega)).shut (Nat.le_refl _)⟩
    · have hm0 : 0 ≤ m := jj;have hm' : decide (m < 0) = false := decide_eq_false hm;have hm1 : m < (r.size : Int) := jj;go_wp2_with fail;refine (HI _).mono ?_;rintro e w5 ⟨rfl,rfl⟩;go_wp2_with fail;go_roundw
      case rel =>
       have T := fin.out (r.extract 0 m.toNat) (by rw [ByteArray.size_extract]; omega);exact ⟨_,i + 1,ts.set i (r.extract 0 m.toNat),rfl,by go_num,by rw [ByteArray.size_extract]; omega,by omega,T.1,T.2.1,HF.trans T.2.2 (fun j hj e => by omega),by rw [take_set _ _ _ jj,← HSP.out,HSTEP.out,if_neg jj,List.append_assoc]; rfl⟩
      case measure => simp [intOf]; omega
  · have hie : i = cnt := jj;subst hie;clear hlt2;go_wp2_with fail;go_ret;have T := fin.out r jj;have E : so = (ts.set i r).take (i + 1) := by
     rw [← HSP.out,Nat.sub_self,take_set _ _ _ jj];rfl
    exact ⟨_,i + 1,_,rfl,by rw [← HSE.out,E,List.map_take]; exact jm T.1 jj jj,fun t ht => by rw [← HSE.out,E] at ht; exact T.2.1 t (List.mem_of_mem_take ht),by omega,(HF.trans T.2.2 (fun j hj e => by omega)).shut (Nat.le_refl _)⟩
theorem uT (s : ByteArray) (w : World) (hs : s.size ≤ 40) : Calls prog 423 #[.string s,.string ⟨#[45]⟩] w (m5 s w) := by
 go_enter func423,ntmps423;go_wp2_with fail;refine (oF s w hs).mono ?_;rintro e w1 ⟨A,n,c,rfl,h⟩;go_wp2_with fail;go_ret;exact ⟨A,n,c,rfl,h⟩
theorem k8 {w : World} (h : w.ownsRow B e size (.slice A n c) n xs) : n ≤ c := by
 rcases h.2 with ⟨h1,h2⟩ | ⟨g,cap,cur,h1,_,_,h2,_⟩
 · omega
 · injection h1 with _ _ h3;omega
theorem ar {w : World} (h : w.ownsRow B e size (.slice A n c) n xs) (hn : 0 < n) : ∃ g,A = some ⟨g,0,none⟩ ∧ B ≤ g ∧ g < w.heap.size ∧ n ≤ c := by
 obtain ⟨g,cap,hv,hb,hl⟩ := World.ownsRow.form h hn;injection hv with h1 _ _;exact ⟨g,h1,hb,hl,k8 h⟩
def jn (k : Nat) (r : Int) : Bool := e8 r && (!decide (k = 0) || (bH r == 1))
def cY (k : Nat) (s : ByteArray) (p : Nat) : Bool :=
 if h : p < s.size then jn k ((Utf8.decode s p).1 : Int) && cY k s (p + (Utf8.decode s p).2) else true
termination_by s.size - p
decreasing_by have := width_pos s p h; omega
theorem iM (k : Nat) (s : ByteArray) (p : Nat) (h : p < s.size) : cY k s p = (jn k ((Utf8.decode s p).1 : Int) && cY k s (p + (Utf8.decode s p).2)) := by
 rw [cY,dif_pos h]
theorem gj (k : Nat) (s : ByteArray) (p : Nat) (h : ¬ p < s.size) : cY k s p = true := by
 rw [cY,dif_neg h]
def gP (k : Nat) (t : ByteArray) : Bool := !t.toList.isEmpty && (!decide (8 < t.size) && cY k t 0)
def d6 : Nat → List ByteArray → Bool
 | _,[] => true
 | k,t :: ts => gP k t && d6 (k + 1) ts
def gQ (s : ByteArray) : Bool := !decide (40 < s.size) && d6 0 (fa s)
theorem wL (s : ByteArray) (w : World) (hs : s.size ≤ 4096) : Calls prog 422 #[.string s] w (IsB (gQ s) w) := by
 have HLO := Hd (show gQ s = (!decide (40 < s.size) && d6 0 (fa s)) from rfl);generalize gQ s = lo at *;by_cases hl : 40 < s.size
 · have hl' : decide (40 < s.size) = true := decide_eq_true hl;have hl2 : decide ((40 : Int) < (s.size : Int)) = true := FV;go_enter func422,ntmps422;have HH := Hd hl';go_wp2_with fail;go_ret;exact IsB.of (Fr.refl _ _) (by rw [HLO.out,HH.out]; rfl)
 · have hl2 : decide ((40 : Int) < (s.size : Int)) = false := FX;rw [show decide (40 < s.size) = false from FX,Bool.not_false,Bool.true_and] at HLO;have hs40 : s.size ≤ 40 := jj;clear hl;go_enter func422,ntmps422;go_wp2_with fail;refine (uT s w hs40).mono ?_;rintro e w1 ⟨A,n,c,rfl,hrow,hts,hn,hf1⟩;generalize fa s = ts at *;have HROW := Hd hrow;have HTS := Hd hts;have HF1 := Hd hf1;clear hrow hts hf1 hl2 hs40;go_wp2_with fail
   go_loopw [13] (fun iv wr => ∃ k : Nat,iv = .int .i64 (k : Int) ∧ k ≤ n ∧ Fr (fun j => w1.heap.size ≤ j) w1 wr ∧ d6 k (ts.drop k) = lo) (fun iv _ => n - (intOf iv).toNat)
   case atStart => exact ⟨0,rfl,Nat.zero_le _,Fr.refl _ _,by rw [List.drop_zero]; exact HLO.symm⟩
   case round =>
    obtain ⟨k,rfl,hk,hf,hla⟩ := hrel;have hfe : Fr (fun _ => False) w wr := HF1.trans' (hf.shut (Nat.le_refl _));have HFE := Hd hfe;clear hfe;by_cases hlt : k < n
    · have hlt' : (k : Int) < (n : Int) := jj;obtain ⟨g,hg,-,hgl,hgc⟩ := ar HROW.out jj;subst hg;have hrow := aa HROW.out hf (fun j hj e => by have := (World.ownsRow.lt HROW.out j hj).2; omega);have hlen : ts.length = n := by have := hrow.1; simpa using this
      have hck : wr.cell? ⟨g,k,none⟩ = some (.string (ts.getD k ⟨#[]⟩)) := by
       rw [World.ownsRow.cellAt hrow k jj,List.getElem?_map,List.getD_eq_getElem?_getD];rw [List.getElem?_eq_getElem jj];rfl
      have hdr : d6 k (ts.drop k) = (gP k (ts.getD k ⟨#[]⟩) && d6 (k + 1) (ts.drop (k + 1))) := by
       rw [List.drop_eq_getElem_cons jj,List.getD_eq_getElem?_getD,List.getElem?_eq_getElem jj];rfl
      rw [hdr] at hla;have htk : (ts.getD k ⟨#[]⟩).size ≤ 40 := by
       rw [List.getD_eq_getElem?_getD,List.getElem?_eq_getElem jj];exact HTS _ (List.getElem_mem _)
      generalize ts.getD k ⟨#[]⟩ = t at *;have HF := Hd hf;have hszr := hf.size;unfold gP at hla;have HLA := Hd hla;clear hrow hf hlen hla hdr;obtain ⟨wo,rfl⟩ : ∃ wo,wo = wr := ⟨wr,rfl⟩;by_cases h1 : t.toList = []
      · have h1' : t.toList.isEmpty = true := by rw [h1]; rfl
        have h1e : (t.toList == []) = true := by rw [h1]; rfl
        have H1 := Hd h1';clear h1;go_wp2_with fail;go_ret;exact IsB.of HFE (by rw [← HLA.out,H1.out]; rfl)
      · have h1' : t.toList.isEmpty = false := by
         cases ht : t.toList with
         | nil => exact absurd ht h1
         | cons a l => rfl
        have h1e : (t.toList == []) = false := by
         cases ht : t.toList with
         | nil => exact absurd ht h1
         | cons a l => rfl
        have H1 := Hd h1';by_cases h2 : 8 < t.size
        · have h2' : decide (8 < t.size) = true := decide_eq_true h2;have h2e : decide ((8 : Int) < (t.size : Int)) = true := FV;have H2 := Hd h2';clear h2;go_wp2_with fail;go_ret;exact IsB.of HFE (by rw [← HLA.out,H2.out]; simp)
        · have h2' : decide (8 < t.size) = false := decide_eq_false h2;have h2e : decide ((8 : Int) < (t.size : Int)) = false := FX;have H2 := Hd h2';clear h2;go_wp2_with fail
          go_loopg [] (t.size) (fun g wi => ∃ (p : Nat),t.size ≤ p + g ∧ dL wi wo.heap.size t p ∧ Fr (fun j => wo.heap.size ≤ j) wo wi ∧ cY k t p = cY k t 0)
          case atStart => exact ⟨0,by omega,dL.new wo t 0,(Fr.refl _ _).alloc _,rfl⟩
          case round =>
           obtain ⟨p,hg,hit,hfi,htx⟩ := hrel;clear hck;by_cases hp : p < t.size
           · have hnx := dm hit hp;have hwd := width_pos t p hp;have hit2 := hit.set (p + (Utf8.decode t p).2);have hfi2 : Fr (fun j => wo.heap.size ≤ j) wo (World.itSet wr wo.heap.size t (p + (Utf8.decode t p).2)) := hfi.trans (hit.frS _) (fun i hi e => by omega);rw [iM k t p hp] at htx;have hvr := fZ t p;have HIT := Hd hit2;have HFI0 := Hd hfi2;generalize World.itSet wr wo.heap.size t (p + (Utf8.decode t p).2) = w3 at *;generalize (Utf8.decode t p).2 = wd at *;generalize (Utf8.decode t p).1 = r at *;have HPL := Hd (fun w => mY r w hvr);have HCL := Hd (fun w => jW r w hvr);unfold jn at htx;generalize e8 (r : Int) = pl at *;generalize bH (r : Int) = c5 at *;have HTX := Hd htx;clear hit hfi hit2 hfi2 htx hvr;go_wp2_with fail;refine (HPL.out w3).mono ?_;rintro e w4 ⟨rfl,rfl⟩;have HFI := HFI0;have HIT4 := HIT;clear HIT HFI0;cases pl with
             | false =>
              go_wp2_with fail;go_ret;exact IsB.of (HFE.trans' (HFI.shut (Nat.le_refl _))) (by rw [← HLA.out,← HTX.out]; simp)
             | true =>
              by_cases h0 : k = 0
              · subst h0;go_wp2_with fail;refine (HCL.out w3).mono ?_;rintro e w5 ⟨rfl,rfl⟩;by_cases hc : c5 = 1
                · have hc' : (c5 != 1) = false := by simp [hc]
                  have HC5 := Hd hc;clear hc;go_wp2_with fail
                  go_roundg (t.size - (p + wd))
                  case measure => omega
                  case rel => exact ⟨p + wd,by omega,HIT4.out,HFI.out,by have h := HTX.out; simpa [HC5.out] using h⟩
                · have hc' : (c5 != 1) = true := by simp [hc]
                  have HC5 := Hd hc;clear hc;go_wp2_with fail;go_ret;exact IsB.of (HFE.trans' (HFI.shut (Nat.le_refl _))) (by rw [← HLA.out,← HTX.out]; simp [HC5.out])
              · have h0' : ((k : Int) == 0) = false := by simp [h0]
                have HK0 := Hd h0;clear h0;go_wp2_with fail
                go_roundg (t.size - (p + wd))
                case measure => omega
                case rel => exact ⟨p + wd,by omega,HIT4.out,HFI.out,by have h := HTX.out; simpa [HK0.out] using h⟩
           · have hnx := bJ hit hp;rw [gj k t p hp] at htx;have HTX := Hd htx;have HFI := Hd hfi;clear hit hfi htx;go_wp2_with fail;go_roundw
             case rel => exact ⟨k + 1,by go_num,by omega,HF.trans HFI (fun i hi e => by omega),by rw [← HLA.out,← HTX.out,H1.out,H2.out]; simp⟩
             case measure => simp [intOf]; omega
    · have hge : (n : Int) ≤ (k : Int) := jj;have hlen : ts.length = n := by have := HROW.out.1; simpa using this
      rw [List.drop_eq_nil_of_le jj] at hla;have HLA := Hd hla;clear hf hla hlen;go_wp2_with fail;go_ret;exact IsB.of HFE.out HLA.symm
theorem zQ {w : World} {e : TypeId} (h : w.ownsRow B e size v n xs) (hn : 0 < n) : ∃ g c,v = .slice (some ⟨g,0,none⟩) n c := by
 rcases h.2 with ⟨h1,h2⟩ | ⟨g,cap,cur,h1,_⟩
 · omega
 · exact ⟨_,_,h1⟩
theorem pY (g j : Nat) : (⟨g,0,none⟩ : Addr).add j = ⟨g,j,none⟩ := by
 unfold Addr.add;simp
 try omega
theorem aG {w w' : World} {a : Addr} (hf : Fr (fun _ => False) w w') (h : w.cell? a = some v) : w'.cell? a = some v := by
 have hl := World.block_lt_of_cell? w _ h;rw [World.cell?_of_block (hf.block a.block hl id)];exact h
theorem rQ (s : ByteArray) (w : World) : Calls prog 255 #[.string s] w fun e w' => e = .returned (.bool false) ∧ w = w' := by
 go_enter func255,ntmps255;go_wp2_with fail;go_ret;exact ⟨rfl,rfl⟩
theorem wM (a b : ByteArray) (w : World) : Calls prog 198 #[.string a,.string b] w fun e w' => e = .returned (.bool (Op.bytesLess a.toList b.toList)) ∧ w' = w := by
 have HN := Hd (fun s w => rQ s w);go_enter func198,ntmps198;go_wp2_with fail;refine (HN _ _).mono ?_;rintro e w1 ⟨rfl,rfl⟩;go_wp2_with fail;go_ret;exact ⟨rfl,rfl⟩
theorem wN (n : Nat) (hn : n ≤ 9) (w : World) : Calls prog 202 #[.int .u64 (n : Int)] w fun e w' => (∃ x,e = .returned (.int .i64 x)) ∧ w' = w := by
 have h : n = 0 ∨ n = 1 ∨ n = 2 ∨ n = 3 ∨ n = 4 ∨ n = 5 ∨ n = 6 ∨ n = 7 ∨ n = 8 ∨ n = 9 := jj;rcases h with rfl | rfl | rfl | rfl | rfl | rfl | rfl | rfl | rfl | rfl
 all_goals
  go_enter func202,ntmps202;go_wp2_with fail;go_ret;exact ⟨⟨_,rfl⟩,rfl⟩
theorem wO (n : Nat) (hn : n ≤ 9) (w : World) : Calls prog 142 #[.int .u64 (n : Int)] w fun e w' => (∃ x,e = .returned (.int .i64 x)) ∧ w' = w := by
 have HL := Hd (fun w => wN n hn w);go_enter func142,ntmps142;go_wp2_with fail;refine (HL _).mono ?_;rintro e w1 ⟨⟨x,rfl⟩,rfl⟩;go_wp2_with fail;go_ret;exact ⟨⟨_,rfl⟩,rfl⟩
theorem m7 (g n c : Nat) (ss : List ByteArray) (w : World) (hn : n ≤ 4096) (hn0 : 0 < n) (hc : ∀ j,j < n → w.cell? ⟨g,j,none⟩ = some (.string (ss.getD j ByteArray.empty))) (hl : ss.length = n) :
    Calls prog 82 #[.slice (some ⟨g,0,none⟩) n c] w fun e w' => ∃ A c',e = .returned (.slice (some ⟨A,0,none⟩) n c') ∧ w'.ownsRow w.heap.size 9 1 (.slice (some ⟨A,0,none⟩) n c') n (ss.map .string) ∧ Fr (fun _ => False) w w' := by
 obtain ⟨i9,hi9,hz90,hz91,hz92⟩ := info_parts Co;have HC := Hd hc;clear hc;have hc2 : ∀ j u,(ss.map Value.string)[j]? = some u → (w.alloc (.cells #[] 9)).cell? ((⟨g,0,none⟩ : Addr).add j) = some u := by
  intro j u hj;rw [List.getElem?_map] at hj;obtain ⟨x,hx,hxu⟩ := Option.map_eq_some_iff.1 hj;obtain ⟨hlt,he⟩ := List.getElem?_eq_some_iff.1 hx;have h := HC.out j jj;rw [List.getD_eq_getElem?_getD,hx,Option.getD_some,hxu] at h;have e : (⟨g,0,none⟩ : Addr).add j = ⟨g,j,none⟩ := pY g j;rw [e];exact aG ((Fr.refl _ _).alloc _) h
 have hrow : (w.alloc (.cells #[] 9)).ownsRow w.heap.size 9 1 (.slice (some ⟨w.heap.size,0,none⟩) 0 0) 0 [] := World.ownsRow_lit w #[] 0 (Nat.le_refl _) de rfl;have HC2 := Hd hc2;clear hc2;have hq : ∀ w,(binOp .eql 31 (.slice (some ⟨g,0,none⟩) n c) (.slice none 0 0)).run prog w = .ok (.bool false) w := fun w => by rfl
 go_enter func82,ntmps82;go_wp2_with (at_builtin; refine wpList_append_own _ rfl _ _ 31 rfl w.heap.size 9 i9 _ 1 16 underlying31 hi9 hz90 hz91 hz92 rfl de _ 0 [] (by rfl) hrow ⟨g,0,none⟩ n c (ss.map .string) (by rfl) (by simp [hl]) HC2 (by intro u hu; obtain ⟨x,_,rfl⟩ := List.mem_map.1 hu; rfl) (by unfold maxLen; omega) jj (by simp) ?_; intro v2 w2 hown2 hgr2 _; obtain ⟨A2,c2,hv2⟩ := zQ hown2 jj; subst hv2);have HF := Hd (((Fr.refl (fun _ => False) w).alloc (.cells #[] 9)).grown hgr2 (fun k hk e => by injection e with e; simp at e; omega));have HR := Hd hown2;go_wp2_with fail;go_ret;exact ⟨A2,c2,by simp,by simpa using HR.out,HF.out⟩
theorem uU (w : World) : Calls prog 82 #[.slice none 0 0] w fun e w' => e = .returned (.slice none 0 0) ∧ w = w' := by
 have hq : ∀ w,(binOp .eql 31 (.slice none 0 0) (.slice none 0 0)).run prog w = .ok (.bool true) w := fun w => by rfl
 go_enter func82,ntmps82;go_wp2_with fail;go_ret;exact ⟨rfl,rfl⟩
theorem bL {w : World} {ss : List ByteArray} (h : w.ownsRow B 9 1 (.slice (some ⟨g,0,none⟩) n c) n (ss.map .string)) (j : Nat) (hj : j < n) : w.cell? ⟨g,j,none⟩ = some (.string (ss.getD j ByteArray.empty)) := by
 have hl : ss.length = n := by have := h.1; simpa using this
 rw [World.ownsRow.cellAt h j jj,List.getElem?_map,List.getD_eq_getElem?_getD];rw [List.getElem?_eq_getElem jj];rfl
/-! Of no strings. -/
end Go.Proofs.YtfaapkpebnagmaaGreatDoor
