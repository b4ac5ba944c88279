/- Texts of the proof, one behind the other: Ge, Gg, Gu. -/
import Derived.Test.YtagchljgmjmlcaaGreatDoorXa
import Derived.Test.YtagchljgmjmlcaaGreatDoorXb
import Derived.Lib.QuoteLoop
import Derived.Deep.CutBlock
import Derived.Deep.RegionLawGrows
import Derived.Deep.Cut
import Derived.Deep.CutRange
import Derived.WalkKit
import Derived.WalkLawsBesides
import Derived.WalkSpells
import Derived.Deep.QuietTactic
import Derived.BigRegion
import Derived.BigQuiet
import Derived.Lib.Hide
import Derived.Outline
import Derived.Deep.AppendLies
import Derived.Deep.RegionLaw
import Derived.Deep.RegionWith
import Derived.Deep.RegionHeld3
import Derived.Deep.LoopGhost
import Derived.Deep.DeepFit
import Derived.Laws.ResultCell
import Derived.Laws.RangeAny
import Derived.Deep.MidRow
import Derived.StillTailTactics
import Derived.OpenShut
import Derived.Laws.Runes
import Derived.OwnWalk
namespace Go.Proofs.YtagchljgmjmlcaaGreatDoor
set_option linter.unusedVariables false
open Go.RowKit Go
set_option maxRecDepth 100000
set_option maxHeartbeats 40000000

def IsB (b : Bool) (w : World) (e : Ending) (w' : World) : Prop := e = .returned (.bool b) ∧ Fr (fun _ => False) w w'
theorem IsB.mk {w w' : World} {b : Bool} (h : Fr (fun _ => False) w w') : IsB b w (.returned (.bool b)) w' := ⟨rfl, h⟩
theorem IsB.of {w w' : World} {b c : Bool} (h : Fr (fun _ => False) w w') (hc : c = b) : IsB c w (.returned (.bool b)) w' := ⟨by rw [hc], h⟩

/-- A sign's class. -/
def classOf (r : Int) : Int :=
 if r = 32 ∨ r = 9 ∨ r = 10 ∨ r = 13 then 0 else if (97 ≤ r ∧ r ≤ 122) ∨ (65 ≤ r ∧ r ≤ 90) then 1 else if 48 ≤ r ∧ r ≤ 57 then 2 else if 32 < r ∧ r ≤ 126 then 3 else if r < 160 then 4 else 5
theorem decode_valid (s : ByteArray) (p : Nat) : Lib.validRune ((Utf8.decode s p).1 : Int) = true := by
 have h := Lib.decodeN_valid (s.size - p) (s.get! p).toNat (s.get! (p + 1)).toNat (s.get! (p + 2)).toNat (s.get! (p + 3)).toNat (UInt8.toNat_lt _)
 rw [← Lib.decode_at] at h
 simp only [Lib.validRune, decide_eq_true_eq]
 omega

theorem class_of (r : Int) (w : World) (hv : Lib.validRune r = true) : Calls Tryz.prog 98 #[.int .i32 r] w fun e w' => e = .returned (.int .i64 (classOf r)) ∧ w = w' := by
 have HV := Tryz.utf8_ValidRune r w
 rw [hv] at HV
 obtain ⟨c, hc⟩ : ∃ c, c = classOf r := ⟨_, rfl⟩
 rw [← hc]
 have HC := Lib.hid hc
 clear hc hv
 go_enter Tryz.func98, Tryz.ntmps98
 go_wp2_with fail
 refine HV.mono ?_
 rintro e w1 ⟨rfl, rfl⟩
 go_wp2_with fail
 all_goals (go_ret; refine ⟨congrArg (fun n => Ending.returned (.int .i64 n)) ?_, rfl⟩; rw [HC.out]; unfold classOf; (try simp only [beq_iff_eq, beq_eq_false_iff_ne, ne_eq] at *); (repeat' split) <;> omega)

theorem class_any (r : Int) (w : World) (hv : Lib.validRune r = true) : Calls Tryz.prog 98 #[.int .i32 r] w fun e w' => e = .returned (.int .i64 (classOf r)) ∧ w = w' := class_of r w hv
/-- Is it a letter or a digit? -/
def plainOf (r : Int) : Bool := (classOf r == 1) || (classOf r == 2)
theorem plain_any (r : Int) (w : World) (hv : Lib.validRune r = true) : Calls Tryz.prog 270 #[.int .i32 r] w fun e w' => e = .returned (.bool (plainOf r)) ∧ w = w' := by
 have HC := Lib.hid (class_any r w hv)
 unfold plainOf
 generalize classOf r = c at *
 by_cases h : c = 1
 · have h' : (c == 1) = true := by simp [h]
   have h2 : (c == 2) = false := by simp [h]
   clear h
   rw [h', Bool.true_or]
   go_enter Tryz.func270, Tryz.ntmps270
   go_wp2_with fail
   refine HC.out.mono ?_
   rintro e w1 ⟨rfl, rfl⟩
   go_wp2_with fail
   go_ret
   exact ⟨rfl, rfl⟩
 · have h' : (c == 1) = false := by simp [h]
   clear h
   rw [h', Bool.false_or]
   go_enter Tryz.func270, Tryz.ntmps270
   go_wp2_with fail
   refine HC.out.mono ?_
   rintro e w1 ⟨rfl, rfl⟩
   go_wp2_with fail
   refine HC.out.mono ?_
   rintro e w1 ⟨rfl, rfl⟩
   go_wp2_with fail
   go_ret
   exact ⟨rfl, rfl⟩

/-- An iterator over a string, at a place. -/
def ItAt (w : World) (g : Nat) (s : ByteArray) (pos : Nat) : Prop := w.heap[g]? = some (.stringIter s pos)
def World.itSet (w : World) (g : Nat) (s : ByteArray) (pos : Nat) : World := { w with heap := w.heap.setIfInBounds g (.stringIter s pos) }
theorem ItAt.lt {w : World} {g pos : Nat} {s : ByteArray} (h : ItAt w g s pos) : g < w.heap.size := (Array.getElem?_eq_some_iff.1 h).1
theorem ItAt.set {w : World} {g pos : Nat} {s : ByteArray} (h : ItAt w g s pos) (p' : Nat) : ItAt (World.itSet w g s p') g s p' := by
 have := h.lt
 show (w.heap.setIfInBounds g _)[g]? = _
 simp [this]
theorem ItAt.frS {w : World} {g pos : Nat} {s : ByteArray} (h : ItAt w g s pos) (p' : Nat) : Fr (fun j => j = g) w (World.itSet w g s p') :=
 ⟨rfl, rfl, rfl, by simp [World.itSet], fun k hk hn => by
  show (w.heap.setIfInBounds g _)[k]? = _
  rw [Array.getElem?_setIfInBounds_ne (fun e => hn e.symm)]⟩
theorem ItAt.fr {S : Nat → Prop} {w w' : World} {g pos : Nat} {s : ByteArray} (h : ItAt w g s pos) (hf : Fr S w w') (hn : ¬ S g) : ItAt w' g s pos := (hf.block g h.lt hn).trans h
theorem ItAt.new (w : World) (s : ByteArray) (p : Nat) : ItAt (w.iter s p) w.heap.size s p := World.iter_heap w s p
theorem run_next_it {w : World} {g pos : Nat} {s : ByteArray} (h : ItAt w g s pos) (hp : pos < s.size) (ty : TypeId) :
    (Instr.next (.pointer (some ⟨g, 0, none⟩)) true ty).run Tryz.prog w = .ok (.tuple #[.bool true, .int .i64 pos, .int .i32 (Utf8.decode s pos).1]) (World.itSet w g s (pos + (Utf8.decode s pos).2)) := by
 unfold ItAt at h
 have hg : g < w.heap.size := (Array.getElem?_eq_some_iff.1 h).1
 simp [Instr.next, getObj, setObj, Sem.run_bind, Sem.run, h, Result.andThen, hp, World.itSet, goInt]
theorem run_next_it_end {w : World} {g pos : Nat} {s : ByteArray} (h : ItAt w g s pos) (hp : ¬ pos < s.size) (ty : TypeId) :
    (Instr.next (.pointer (some ⟨g, 0, none⟩)) true ty).run Tryz.prog w = .ok (.tuple #[.bool false]) w := by
 unfold ItAt at h
 simp [Instr.next, getObj, Sem.run_bind, Sem.run, h, Result.andThen, hp]
theorem width_pos (s : ByteArray) (pos : Nat) (h : pos < s.size) : 1 ≤ (Utf8.decode s pos).2 := by
 by_cases ha : (s[pos]'h).toNat < 128
 · rw [decode_ascii s pos h ha]
   exact Nat.le_refl _
 · exact (decode_high s pos h (by omega)).2

theorem Fr.shut {n : Nat} {w w' : World} (h : Fr (fun j => n ≤ j) w w') (hn : w.heap.size ≤ n) : Fr (fun _ => False) w w' := ⟨h.os, h.tape, h.output, h.size, fun k hk _ => h.block k hk (by omega)⟩

/-- Is what stands at a place a sign? -/
def okS (s : ByteArray) (p r : Nat) : Bool := !decide (r = 65533) || Lib.hasPrefix (s.extract p s.size).data.toList [239, 191, 189]
/-- Are bytes, from a place on, a text? -/
def textFrom (s : ByteArray) (p : Nat) : Bool :=
 if h : p < s.size then okS s p (Utf8.decode s p).1 && textFrom s (p + (Utf8.decode s p).2) else true
termination_by s.size - p
decreasing_by have := width_pos s p h; omega
theorem textFrom_step (s : ByteArray) (p : Nat) (h : p < s.size) : textFrom s p = (okS s p (Utf8.decode s p).1 && textFrom s (p + (Utf8.decode s p).2)) := by
 rw [textFrom, dif_pos h]
theorem textFrom_end (s : ByteArray) (p : Nat) (h : ¬ p < s.size) : textFrom s p = true := by
 rw [textFrom, dif_neg h]

def WrongPost (s : ByteArray) (w : World) (e : Ending) (w' : World) : Prop := ∃ n : Int, e = .returned (.int .i64 n) ∧ decide (n < 0) = textFrom s 0 ∧ Fr (fun _ => False) w w'

theorem wrong_any (s : ByteArray) (w : World) (hs : s.size ≤ 4096) : Calls Tryz.prog 67 #[.string s] w (WrongPost s w) := by
 go_enter Tryz.func67, Tryz.ntmps67
 go_wp2_with fail
 go_loopg [3] (s.size) (fun g nv wr => ∃ (p : Nat) (n : Nat), nv = .int .i64 (n : Int) ∧ n ≤ p ∧ s.size ≤ p + g ∧ ItAt wr w.heap.size s p ∧ Fr (fun j => w.heap.size ≤ j) w wr ∧ textFrom s p = textFrom s 0)
 case atStart => exact ⟨0, 0, rfl, Nat.le_refl _, by omega, ItAt.new w s 0, (Fr.refl _ _).alloc _, rfl⟩
 case round =>
  obtain ⟨p, n, rfl, hn, hg, hit, hf, htx⟩ := hrel
  by_cases hp : p < s.size
  · have hnx := run_next_it hit hp
    have hwd := width_pos s p hp
    have hit2 := hit.set (p + (Utf8.decode s p).2)
    have hf2 : Fr (fun j => w.heap.size ≤ j) w (World.itSet wr w.heap.size s (p + (Utf8.decode s p).2)) := hf.trans (hit.frS _) (fun i hi e => by omega)
    have hp1 : (p : Int) ≤ (s.size : Int) := by omega
    have hs1 : (s.size : Int) ≤ 4096 := by omega
    rw [textFrom_step s p hp] at htx
    have HIT := Lib.hid hit2
    have HF := Lib.hid hf2
    generalize World.itSet wr w.heap.size s (p + (Utf8.decode s p).2) = w2 at *
    generalize (Utf8.decode s p).2 = wd at *
    generalize (Utf8.decode s p).1 = r at *
    unfold okS at htx
    have HTX := Lib.hid htx
    clear hit hf hit2 hf2 htx
    by_cases hr : (r : Int) = 65533
    · have hr' : ((r : Int) == 65533) = true := by simp [hr]
      have HR := Lib.hid (show decide (r = 65533) = true from decide_eq_true (by omega))
      clear hr
      go_wp2_with fail
      refine (Tryz.strings_HasPrefix _ _ _).mono ?_
      rintro e w3 ⟨rfl, rfl⟩
      generalize hb : Lib.hasPrefix _ _ = b
      have HB := Lib.hid hb
      clear hb
      cases b with
      | true =>
       go_wp2_with fail
       go_roundg (s.size - (p + wd))
       case measure => omega
       case rel => exact ⟨p + wd, n + 1, by go_num, by omega, by omega, HIT.out, HF.out, by have h1 := HTX.out; have h2 := HB.out; rw [h2, HR.out] at h1; simpa using h1⟩
      | false =>
       go_wp2_with fail
       go_ret
       exact ⟨_, rfl, by have h1 := HTX.out; have h2 := HB.out; rw [h2, HR.out] at h1; rw [← h1]; simp, HF.out.shut (Nat.le_refl _)⟩
    · have hr' : ((r : Int) == 65533) = false := by simp [hr]
      have HR := Lib.hid (show decide (r = 65533) = false from decide_eq_false (by omega))
      clear hr
      go_wp2_with fail
      go_roundg (s.size - (p + wd))
      case measure => omega
      case rel => exact ⟨p + wd, n + 1, by go_num, by omega, by omega, HIT.out, HF.out, by have h1 := HTX.out; rw [HR.out] at h1; simpa using h1⟩
  · have hnx := run_next_it_end hit hp
    rw [textFrom_end s p hp] at htx
    have HTX := Lib.hid htx
    clear hit htx
    go_wp2_with fail
    go_ret
    exact ⟨_, rfl, by rw [← HTX.out]; rfl, hf.shut (Nat.le_refl _)⟩

theorem good_any (s : ByteArray) (w : World) (hs : s.size ≤ 4096) : Calls Tryz.prog 261 #[.string s] w (IsB (textFrom s 0) w) := by
 go_enter Tryz.func261, Tryz.ntmps261
 go_wp2_with fail
 refine (wrong_any s w hs).mono ?_
 rintro e w1 ⟨n, rfl, hd, hf⟩
 have HD := Lib.hid hd
 clear hd
 go_wp2_with fail
 go_ret
 exact IsB.of hf HD.out.symm

/-- Is a sign one that no IRI has? -/
def forbOf (r : Int) : Bool := decide (r = 60 ∨ r = 62 ∨ r = 34 ∨ r = 123 ∨ r = 125 ∨ r = 124 ∨ r = 94 ∨ r = 96 ∨ r = 92)
theorem forb_fin : ∀ k : Fin 128, decide (0 ≤ Lib.indexByte [60, 62, 34, 123, 125, 124, 94, 96, 92] (k : Nat).toUInt8) = forbOf ((k : Nat) : Int) := by decide +kernel
theorem forb_low (r : Int) (h0 : 0 ≤ r) (h : r < 128) : decide (0 ≤ Lib.indexByte [60, 62, 34, 123, 125, 124, 94, 96, 92] r.toNat.toUInt8) = forbOf r := by
 have := forb_fin ⟨r.toNat, by omega⟩
 simp only at this
 rw [this]
 congr 1
 omega
theorem forb_high (r : Int) (h : 128 ≤ r) : forbOf r = false := decide_eq_false (by omega)
def RunePost (b : Bool) (w : World) (e : Ending) (w' : World) : Prop := ∃ n : Int, e = .returned (.int .i64 n) ∧ decide (0 ≤ n) = b ∧ Fr (fun _ => False) w w'

theorem index_none (c : UInt8) (hc : 128 ≤ c.toNat) : ∀ l : List UInt8, (∀ x ∈ l, x.toNat < 128) → Lib.indexByte l c = -1
 | [], _ => rfl
 | x :: l, h => by
  have hx := h x (by simp)
  have ih := index_none c hc l (fun y hy => h y (by simp [hy]))
  have hne : ¬ x = c := fun e => by rw [e] at hx; omega
  unfold Lib.indexByte
  simp [hne, ih]

theorem idxrune_err (s : ByteArray) (w : World) (hs : s.size ≤ 4096) (hA : ∀ p (h : p < s.size), (s[p]'h).toNat < 128) : Calls Tryz.prog 264 #[.string s, .int .i32 65533] w (RunePost false w) := by
 have HA := Lib.hid hA
 clear hA
 go_enter Tryz.func264, Tryz.ntmps264
 go_wp2_with fail
 go_loopg [] (s.size) (fun g wr => ∃ (p : Nat), s.size ≤ p + g ∧ ItAt wr w.heap.size s p ∧ Fr (fun j => w.heap.size ≤ j) w wr)
 case atStart => exact ⟨0, by omega, ItAt.new w s 0, (Fr.refl _ _).alloc _⟩
 case round =>
  obtain ⟨p, hg, hit, hf⟩ := hrel
  by_cases hp : p < s.size
  · have hnx := run_next_it hit hp
    have hwd := width_pos s p hp
    have hr1 : (Utf8.decode s p).1 < 128 := by rw [decode_ascii s p hp (HA.out p hp)]; exact HA.out p hp
    have hit2 := hit.set (p + (Utf8.decode s p).2)
    have hf2 : Fr (fun j => w.heap.size ≤ j) w (World.itSet wr w.heap.size s (p + (Utf8.decode s p).2)) := hf.trans (hit.frS _) (fun i hi e => by omega)
    have HIT := Lib.hid hit2
    have HF := Lib.hid hf2
    generalize World.itSet wr w.heap.size s (p + (Utf8.decode s p).2) = w2 at *
    generalize (Utf8.decode s p).2 = wd at *
    generalize (Utf8.decode s p).1 = r at *
    clear hit hf hit2 hf2
    have hr' : ((r : Int) == 65533) = false := by simp; omega
    go_wp2_with fail
    go_roundg (s.size - (p + wd))
    case measure => omega
    case rel => exact ⟨p + wd, by omega, HIT.out, HF.out⟩
  · have hnx := run_next_it_end hit hp
    clear hit
    go_wp2_with fail
    go_ret
    exact ⟨_, rfl, rfl, hf.shut (Nat.le_refl _)⟩

theorem idxrune_any (r : Int) (w : World) (h0 : 0 ≤ r) (hvr : Lib.validRune r = true) : Calls Tryz.prog 264 #[.string ⟨#[60, 62, 34, 123, 125, 124, 94, 96, 92]⟩, .int .i32 r] w (RunePost (forbOf r) w) := by
 by_cases h1 : r < 128
 · have h1' : decide (r < 128) = true := decide_eq_true h1
   have HFB := Lib.hid (forb_low r h0 h1)
   go_enter Tryz.func264, Tryz.ntmps264
   go_wp2_with fail
   refine (Tryz.strings_IndexByte _ _ _).mono ?_
   rintro e w1 ⟨rfl, rfl⟩
   go_wp2_with fail
   go_ret
   exact ⟨_, rfl, HFB.out, Fr.refl _ _⟩
 · have h1' : decide (r < 128) = false := decide_eq_false h1
   rw [forb_high r (by omega)]
   by_cases h2 : r = 65533
   · have h2' : (r == 65533) = true := by simp [h2]
     subst h2
     exact idxrune_err _ w (by decide) (by decide)
   · have h2' : (r == 65533) = false := by simp [h2]
     have hv := Tryz.utf8_ValidRune r w
     obtain ⟨b, hb⟩ : ∃ b, Lib.validRune r = b := ⟨_, rfl⟩
     rw [hb] at hv
     cases b with
     | false => rw [hvr] at hb; cases hb
     | true =>
      have hu : Utf8.valid r = true := by
       simp only [Lib.validRune, decide_eq_true_eq] at hb
       simp only [Utf8.valid, Bool.or_eq_true, Bool.and_eq_true, decide_eq_true_eq]
       omega
      obtain ⟨e1, e2, e3⟩ := encode_facts r hu (by omega)
      have hcv := fun wx => run_convert_int_string (P := Tryz.prog) wx 21 9 .i32 r (by kernel_rfl) Tryz.underlying9
      generalize Utf8.encode r = B at *
      obtain hm | hm | hm : B.size = 2 ∨ B.size = 3 ∨ B.size = 4 := by omega
      · obtain ⟨i, hi⟩ : ∃ i, i = B.size - 1 := ⟨_, rfl⟩
        simp only [← hi] at e3
        have hi2 : i = 1 := by omega
        subst hi2
        obtain ⟨c, hc⟩ : ∃ c, B[1]'(by omega) = c := ⟨_, rfl⟩
        have e4 : 128 ≤ c.toNat := by rw [← hc]; exact e3 (by omega)
        have e5 : c.toNat ≤ 255 := by have := c.toNat_lt; omega
        have hne : ((((⟨#[60, 62, 34, 123, 125, 124, 94, 96, 92]⟩ : ByteArray)[1]'(by decide)).toNat : Int) != (c.toNat : Int)) = true := by
         show (((62 : Nat) : Int) != (c.toNat : Int)) = true
         rw [bne_iff_ne]
         omega
        have hN : Lib.indexByte [34, 123, 125, 124, 94, 96, 92] c = -1 := index_none c e4 [34, 123, 125, 124, 94, 96, 92] (by decide)
        clear e1 e2 e3 hi
        go_enter Tryz.func264, Tryz.ntmps264
        go_wp2_with fail
        refine hv.mono ?_
        rintro e w1 ⟨rfl, rfl⟩
        go_wp2_with fail
        go_step3
        go_wp2_with fail
        go_loopg [9, 10, 12] (0) (fun g a b c wr => a = .int .i64 1 ∧ b = .int .i64 0 ∧ wr = w1)
        case atStart => exact ⟨rfl, rfl, rfl⟩
        case round =>
         obtain ⟨rfl, rfl, rfl⟩ := hrel
         have hwr : IntKind.i64.wrap 2 = 2 := by decide
         clear hv
         go_wp2_with fail
         go_step3
         go_wp2_with fail
         go_quiet (fail)
         have hq : Fr (fun _ => False) wr (wr.drewN nq) := (Fr.refl _ _).drewN nq
         generalize wr.drewN nq = w2 at hq ⊢
         go_wp2_with fail
         go_quiet ((go_at_call 260; exact Calls.quiet_of_same (Tryz.strings_IndexByte _ _ _)))
         have hq' : Fr (fun _ => False) wr (w2.drewN nq) := hq.drewN nq
         go_wp2_with fail
         rw [Exit.noGoto_ret]
         go_ret
         exact ⟨_, rfl, rfl, hq'⟩
      · obtain ⟨i, hi⟩ : ∃ i, i = B.size - 1 := ⟨_, rfl⟩
        simp only [← hi] at e3
        have hi2 : i = 2 := by omega
        subst hi2
        obtain ⟨c, hc⟩ : ∃ c, B[2]'(by omega) = c := ⟨_, rfl⟩
        have e4 : 128 ≤ c.toNat := by rw [← hc]; exact e3 (by omega)
        have e5 : c.toNat ≤ 255 := by have := c.toNat_lt; omega
        have hne : ((((⟨#[60, 62, 34, 123, 125, 124, 94, 96, 92]⟩ : ByteArray)[2]'(by decide)).toNat : Int) != (c.toNat : Int)) = true := by
         show (((34 : Nat) : Int) != (c.toNat : Int)) = true
         rw [bne_iff_ne]
         omega
        have hN : Lib.indexByte [123, 125, 124, 94, 96, 92] c = -1 := index_none c e4 [123, 125, 124, 94, 96, 92] (by decide)
        clear e1 e2 e3 hi
        go_enter Tryz.func264, Tryz.ntmps264
        go_wp2_with fail
        refine hv.mono ?_
        rintro e w1 ⟨rfl, rfl⟩
        go_wp2_with fail
        go_step3
        go_wp2_with fail
        go_loopg [9, 10, 12] (0) (fun g a b c wr => a = .int .i64 2 ∧ b = .int .i64 0 ∧ wr = w1)
        case atStart => exact ⟨rfl, rfl, rfl⟩
        case round =>
         obtain ⟨rfl, rfl, rfl⟩ := hrel
         have hwr : IntKind.i64.wrap 3 = 3 := by decide
         clear hv
         go_wp2_with fail
         go_step3
         go_wp2_with fail
         go_quiet (fail)
         have hq : Fr (fun _ => False) wr (wr.drewN nq) := (Fr.refl _ _).drewN nq
         generalize wr.drewN nq = w2 at hq ⊢
         go_wp2_with fail
         go_quiet ((go_at_call 260; exact Calls.quiet_of_same (Tryz.strings_IndexByte _ _ _)))
         have hq' : Fr (fun _ => False) wr (w2.drewN nq) := hq.drewN nq
         go_wp2_with fail
         rw [Exit.noGoto_ret]
         go_ret
         exact ⟨_, rfl, rfl, hq'⟩
      · obtain ⟨i, hi⟩ : ∃ i, i = B.size - 1 := ⟨_, rfl⟩
        simp only [← hi] at e3
        have hi2 : i = 3 := by omega
        subst hi2
        obtain ⟨c, hc⟩ : ∃ c, B[3]'(by omega) = c := ⟨_, rfl⟩
        have e4 : 128 ≤ c.toNat := by rw [← hc]; exact e3 (by omega)
        have e5 : c.toNat ≤ 255 := by have := c.toNat_lt; omega
        have hne : ((((⟨#[60, 62, 34, 123, 125, 124, 94, 96, 92]⟩ : ByteArray)[3]'(by decide)).toNat : Int) != (c.toNat : Int)) = true := by
         show (((123 : Nat) : Int) != (c.toNat : Int)) = true
         rw [bne_iff_ne]
         omega
        have hN : Lib.indexByte [125, 124, 94, 96, 92] c = -1 := index_none c e4 [125, 124, 94, 96, 92] (by decide)
        clear e1 e2 e3 hi
        go_enter Tryz.func264, Tryz.ntmps264
        go_wp2_with fail
        refine hv.mono ?_
        rintro e w1 ⟨rfl, rfl⟩
        go_wp2_with fail
        go_step3
        go_wp2_with fail
        go_loopg [9, 10, 12] (0) (fun g a b c wr => a = .int .i64 3 ∧ b = .int .i64 0 ∧ wr = w1)
        case atStart => exact ⟨rfl, rfl, rfl⟩
        case round =>
         obtain ⟨rfl, rfl, rfl⟩ := hrel
         have hwr : IntKind.i64.wrap 4 = 4 := by decide
         clear hv
         go_wp2_with fail
         go_step3
         go_wp2_with fail
         go_quiet (fail)
         have hq : Fr (fun _ => False) wr (wr.drewN nq) := (Fr.refl _ _).drewN nq
         generalize wr.drewN nq = w2 at hq ⊢
         go_wp2_with fail
         go_quiet ((go_at_call 260; exact Calls.quiet_of_same (Tryz.strings_IndexByte _ _ _)))
         have hq' : Fr (fun _ => False) wr (w2.drewN nq) := hq.drewN nq
         go_wp2_with fail
         rw [Exit.noGoto_ret]
         go_ret
         exact ⟨_, rfl, rfl, hq'⟩

theorem contains_any (r : Int) (w : World) (h0 : 0 ≤ r) (hvr : Lib.validRune r = true) : Calls Tryz.prog 262 #[.string ⟨#[60, 62, 34, 123, 125, 124, 94, 96, 92]⟩, .int .i32 r] w (IsB (forbOf r) w) := by
 have HX := Lib.hid (fun w => idxrune_any r w h0 hvr)
 clear hvr
 generalize forbOf r = b at *
 go_enter Tryz.func262, Tryz.ntmps262
 go_wp2_with fail
 refine (HX.out _).mono ?_
 rintro e w1 ⟨n, rfl, hd, hf⟩
 have HD := Lib.hid hd
 clear hd
 go_wp2_with fail
 go_ret
 exact IsB.of hf HD.out.symm

/-- May a sign stand in an IRI? -/
def iriSign (r : Int) : Bool := !(classOf r == 0 || classOf r == 4 || forbOf r)
def iriFrom (s : ByteArray) (p : Nat) : Bool :=
 if h : p < s.size then iriSign ((Utf8.decode s p).1 : Int) && iriFrom s (p + (Utf8.decode s p).2) else true
termination_by s.size - p
decreasing_by have := width_pos s p h; omega
theorem iriFrom_step (s : ByteArray) (p : Nat) (h : p < s.size) : iriFrom s p = (iriSign ((Utf8.decode s p).1 : Int) && iriFrom s (p + (Utf8.decode s p).2)) := by
 rw [iriFrom, dif_pos h]
theorem iriFrom_end (s : ByteArray) (p : Nat) (h : ¬ p < s.size) : iriFrom s p = true := by
 rw [iriFrom, dif_neg h]
/-- Is a text an IRI's? (Of one that isn't too long.) -/
def iriGood (s : ByteArray) : Bool := !decide (Lib.indexByte s.data.toList 58 < 1) && (textFrom s 0 && iriFrom s 0)

theorem iri_any (s : ByteArray) (w : World) (hs : s.size ≤ 4096) : Calls Tryz.prog 259 #[.agg #[.string s]] w (IsB (iriGood s) w) := by
 have HIG := Lib.hid (show iriGood s = (!decide (Lib.indexByte s.data.toList (58 : Int).toNat.toUInt8 < 1) && (textFrom s 0 && iriFrom s 0)) from rfl)
 generalize iriGood s = ig at *
 have hs' : decide (4096 < (s.size : Int)) = false := decide_eq_false (by omega)
 have HIX := Lib.hid (fun w => Tryz.strings_IndexByte s 58 w)
 have HG := Lib.hid (fun w => good_any s w hs)
 generalize Lib.indexByte s.data.toList (58 : Int).toNat.toUInt8 = ix at HIX HIG
 generalize htf : textFrom s 0 = tf at HG HIG
 clear htf
 have F0 : Fr (fun _ => False) w (w.alloc (.cells #[.string s] 164)) := (Fr.refl _ _).alloc _
 have hb := Blk.new w 164 #[.string s]
 by_cases h1 : ix < 1
 · have h1' : decide (ix < 1) = true := decide_eq_true h1
   go_enter Tryz.func259, Tryz.ntmps259
   go_wp2_with fail
   refine (HIX.out _).mono ?_
   rintro e w1 ⟨rfl, rfl⟩
   go_wp2_with fail
   go_ret
   exact IsB.of F0 (by rw [HIG.out]; simp [h1])
 · have h1' : decide (ix < 1) = false := decide_eq_false h1
   go_enter Tryz.func259, Tryz.ntmps259
   go_wp2_with fail
   refine (HIX.out _).mono ?_
   rintro e w1 ⟨rfl, rfl⟩
   go_wp2_with fail
   refine (HG.out _).mono ?_
   rintro e w2 ⟨rfl, hf2⟩
   have hb2 := hb.fr hf2 (fun h => h)
   have c0 : w2.cell? ⟨w.heap.size, 0, none⟩ = some (.string s) := hb2.cell 0
   have F2 := F0.trans' hf2
   have HF2 := Lib.hid F2
   have hsz2 := F2.size
   clear hf2 hb2 hb F0 F2
   have HH := Lib.hid h1'
   cases tf with
   | false =>
    go_wp2_with fail
    go_ret
    exact IsB.of HF2.out (by rw [HIG.out]; simp)
   | true =>
    go_wp2_with fail
    go_loopg [] (s.size) (fun g wr => ∃ (p : Nat), s.size ≤ p + g ∧ ItAt wr w2.heap.size s p ∧ Fr (fun j => w2.heap.size ≤ j) w2 wr ∧ iriFrom s p = iriFrom s 0)
    case atStart => exact ⟨0, by omega, ItAt.new w2 s 0, (Fr.refl _ _).alloc _, rfl⟩
    case round =>
     obtain ⟨p, hg, hit, hf, htx⟩ := hrel
     clear c0
     by_cases hp : p < s.size
     · have hnx := run_next_it hit hp
       have hwd := width_pos s p hp
       have hit2 := hit.set (p + (Utf8.decode s p).2)
       have hf2 : Fr (fun j => w2.heap.size ≤ j) w2 (World.itSet wr w2.heap.size s (p + (Utf8.decode s p).2)) := hf.trans (hit.frS _) (fun i hi e => by omega)
       rw [iriFrom_step s p hp] at htx
       have hvr := decode_valid s p
       have HIT := Lib.hid hit2
       have HF := Lib.hid hf2
       generalize World.itSet wr w2.heap.size s (p + (Utf8.decode s p).2) = w3 at *
       generalize (Utf8.decode s p).2 = wd at *
       generalize (Utf8.decode s p).1 = r at *
       have hr0 : (0 : Int) ≤ (r : Int) := by omega
       have HC := Lib.hid (fun w => class_any r w hvr)
       have HCO := Lib.hid (fun w => contains_any r w hr0 hvr)
       unfold iriSign at htx
       generalize classOf (r : Int) = c at *
       generalize forbOf (r : Int) = fb at *
       have HTX := Lib.hid htx
       clear hit hf hit2 hf2 htx hvr
       go_wp2_with fail
       refine (HC.out w3).mono ?_
       rintro e w4 ⟨rfl, rfl⟩
       by_cases h2 : c = 0
       · have h2' : (c == 0) = true := by simp [h2]
         have H2 := Lib.hid h2
         clear h2
         go_wp2_with fail
         go_ret
         exact IsB.of (HF2.out.trans' (HF.out.shut (Nat.le_refl _))) (by rw [HIG.out, ← HTX.out, H2.out]; simp)
       · have h2' : (c == 0) = false := by simp [h2]
         by_cases h3 : c = 4
         · have h3' : (c == 4) = true := by simp [h3]
           have H3 := Lib.hid h3
           clear h2 h3
           go_wp2_with fail
           go_ret
           exact IsB.of (HF2.out.trans' (HF.out.shut (Nat.le_refl _))) (by rw [HIG.out, ← HTX.out, H3.out]; simp)
         · have h3' : (c == 4) = false := by simp [h3]
           clear h2 h3
           go_wp2_with fail
           refine (HCO.out w3).mono ?_
           rintro e w4 ⟨rfl, hf4⟩
           have HF4 := Lib.hid hf4
           clear hf4
           cases fb with
           | true =>
            go_wp2_with fail
            go_ret
            exact IsB.of (HF2.out.trans' ((HF.out.trans HF4.out (fun _ _ h => h.elim)).shut (Nat.le_refl _))) (by rw [HIG.out, ← HTX.out]; simp)
           | false =>
            go_wp2_with fail
            go_roundg (s.size - (p + wd))
            case measure => omega
            case rel => exact ⟨p + wd, by omega, HIT.out.fr HF4.out (fun h => h), HF.out.trans HF4.out (fun _ _ h => h.elim), by have h := HTX.out; rw [h2', h3'] at h; simpa using h⟩
     · have hnx := run_next_it_end hit hp
       rw [iriFrom_end s p hp] at htx
       have HTX := Lib.hid htx
       clear hit htx
       go_wp2_with fail
       go_ret
       exact IsB.of (HF2.out.trans' (hf.shut (Nat.le_refl _))) (by rw [HIG.out, ← HTX.out, HH.out]; simp)

/-- May a sign stand at a place of a label? -/
def blankSign (p : Nat) (r : Int) : Bool := plainOf r || (!decide (p = 0) && (decide (r = 95) || decide (r = 45)))
def blankFrom (s : ByteArray) (p : Nat) : Bool :=
 if h : p < s.size then blankSign p ((Utf8.decode s p).1 : Int) && blankFrom s (p + (Utf8.decode s p).2) else true
termination_by s.size - p
decreasing_by have := width_pos s p h; omega
theorem blankFrom_step (s : ByteArray) (p : Nat) (h : p < s.size) : blankFrom s p = (blankSign p ((Utf8.decode s p).1 : Int) && blankFrom s (p + (Utf8.decode s p).2)) := by
 rw [blankFrom, dif_pos h]
theorem blankFrom_end (s : ByteArray) (p : Nat) (h : ¬ p < s.size) : blankFrom s p = true := by
 rw [blankFrom, dif_neg h]
def blankGood (s : ByteArray) : Bool := blankFrom s 0 && (!s.toList.isEmpty && decide (s.size ≤ 100))

theorem blank_any (s : ByteArray) (w : World) (hs : s.size ≤ 4096) : Calls Tryz.prog 269 #[.agg #[.string s]] w (IsB (blankGood s) w) := by
 have HBG := Lib.hid (show blankGood s = (blankFrom s 0 && (!s.toList.isEmpty && decide (s.size ≤ 100))) from rfl)
 generalize blankGood s = bg at *
 have F0 : Fr (fun _ => False) w (w.alloc (.cells #[.string s] 248)) := (Fr.refl _ _).alloc _
 have hb := Blk.new w 248 #[.string s]
 have hs' : (s.size : Int) ≤ 4096 := by omega
 go_enter Tryz.func269, Tryz.ntmps269
 go_wp2_with fail
 have hsz : w.heap.size + 1 = (w.alloc (.cells #[.string s] 248)).heap.size := by simp
 have HB := Lib.hid hb
 have HF0 := Lib.hid F0
 go_loopg [] (s.size) (fun g wr => ∃ (p : Nat), s.size ≤ p + g ∧ ItAt wr (w.heap.size + 1) s p ∧ Fr (fun j => w.heap.size + 1 ≤ j) (w.alloc (.cells #[.string s] 248)) wr ∧ blankFrom s p = blankFrom s 0)
 case atStart => exact ⟨0, by omega, by rw [hsz]; exact ItAt.new _ s 0, (Fr.refl _ _).alloc _, rfl⟩
 case round =>
  obtain ⟨p, hg, hit, hf, htx⟩ := hrel
  clear F0 hb
  have hFe := HF0.out.trans' (hf.shut (by simp))
  have HFE := Lib.hid hFe
  have hbr := HB.out.fr hf (by omega)
  have c0 : wr.cell? ⟨w.heap.size, 0, none⟩ = some (.string s) := hbr.cell 0
  by_cases hp : p < s.size
  · have hnx := run_next_it hit hp
    have hwd := width_pos s p hp
    have hit2 := hit.set (p + (Utf8.decode s p).2)
    have hf2 : Fr (fun j => w.heap.size + 1 ≤ j) (w.alloc (.cells #[.string s] 248)) (World.itSet wr (w.heap.size + 1) s (p + (Utf8.decode s p).2)) := hf.trans (hit.frS _) (fun i hi e => by omega)
    rw [blankFrom_step s p hp] at htx
    have hvr := decode_valid s p
    have HIT := Lib.hid hit2
    have HF := Lib.hid hf2
    generalize World.itSet wr (w.heap.size + 1) s (p + (Utf8.decode s p).2) = w3 at *
    generalize (Utf8.decode s p).2 = wd at *
    generalize (Utf8.decode s p).1 = r at *
    have HPL := Lib.hid (fun w => plain_any r w hvr)
    unfold blankSign at htx
    generalize plainOf (r : Int) = pl at *
    have HTX := Lib.hid htx
    clear hit hf hit2 hf2 hsz hbr c0 hFe htx hvr
    have fin : Fr (fun _ => False) w w3 := HF0.out.trans' (HF.out.shut (by simp))
    have FIN := Lib.hid fin
    clear fin
    go_wp2_with fail
    refine (HPL.out w3).mono ?_
    rintro e w4 ⟨rfl, rfl⟩
    cases pl with
    | true =>
     go_wp2_with fail
     go_roundg (s.size - (p + wd))
     case measure => omega
     case rel => exact ⟨p + wd, by omega, HIT.out, HF.out, by have h := HTX.out; simpa using h⟩
    | false =>
     by_cases h0 : p = 0
     · subst h0
       go_wp2_with fail
       go_ret
       exact IsB.of FIN.out (by rw [HBG.out, ← HTX.out]; simp)
     · have HP0 := Lib.hid h0
       have h0' : ((p : Int) == 0) = false := by simp [h0]
       by_cases h1 : (r : Int) = 95
       · have h1' : ((r : Int) != 95) = false := by simp [h1]
         have H1 := Lib.hid h1
         clear h1
         go_wp2_with fail
         go_roundg (s.size - (p + wd))
         case measure => omega
         case rel => exact ⟨p + wd, by omega, HIT.out, HF.out, by have h := HTX.out; simpa [HP0.out, H1.out] using h⟩
       · have h1' : ((r : Int) != 95) = true := by simp [h1]
         have H1 := Lib.hid h1
         clear h1
         by_cases h2 : (r : Int) = 45
         · have h2' : ((r : Int) != 45) = false := by simp [h2]
           have H2 := Lib.hid h2
           clear h2
           go_wp2_with fail
           go_roundg (s.size - (p + wd))
           case measure => omega
           case rel => exact ⟨p + wd, by omega, HIT.out, HF.out, by have h := HTX.out; simpa [HP0.out, H2.out] using h⟩
         · have h2' : ((r : Int) != 45) = true := by simp [h2]
           have H2 := Lib.hid h2
           clear h2
           go_wp2_with fail
           go_ret
           exact IsB.of FIN.out (by rw [HBG.out, ← HTX.out]; simp [H1.out, H2.out])
  · have hnx := run_next_it_end hit hp
    rw [blankFrom_end s p hp] at htx
    have HTX := Lib.hid htx
    clear hit hsz hbr htx
    by_cases he : s.toList = []
    · have he' : s.toList.isEmpty = true := by rw [he]; rfl
      have HE := Lib.hid he'
      clear he
      go_wp2_with fail
      go_ret
      exact IsB.of HFE.out (by rw [HBG.out, HE.out]; simp)
    · have he' : s.toList.isEmpty = false := by
       cases ht : s.toList with
       | nil => exact absurd ht he
       | cons a l => rfl
      have HE := Lib.hid he'
      by_cases hq : s.size ≤ 100
      · have hq1 : decide (s.size ≤ 100) = true := decide_eq_true hq
        have hq2 : decide ((s.size : Int) ≤ 100) = true := decide_eq_true (by omega)
        have hq3 : (s.size : Int) ≤ 100 := by omega
        have HQ := Lib.hid hq1
        go_wp2_with fail
        go_ret
        exact IsB.of HFE.out (by rw [HBG.out, HE.out, ← HTX.out, HQ.out]; rfl)
      · have hq1 : decide (s.size ≤ 100) = false := decide_eq_false hq
        have hq2 : decide ((s.size : Int) ≤ 100) = false := decide_eq_false (by omega)
        have hq3 : (100 : Int) < (s.size : Int) := by omega
        have HQ := Lib.hid hq1
        go_wp2_with fail
        go_ret
        exact IsB.of HFE.out (by rw [HBG.out, HE.out, ← HTX.out, HQ.out]; rfl)

theorem info_parts {P : Program} {t : TypeId} {z : Value} {n b : Nat} (h : (P.info? t).map (fun i => (i.zero, i.size, i.bytes)) = some (some z, n, b)) : ∃ i, P.info? t = some i ∧ i.zero = some z ∧ i.size = n ∧ i.bytes = b := by
 cases hi : P.info? t with
 | none => rw [hi] at h; cases h
 | some i =>
  rw [hi] at h
  simp only [Option.map_some, Option.some.injEq, Prod.mk.injEq] at h
  exact ⟨i, rfl, h.1, h.2.1, h.2.2⟩
theorem info9 : (Tryz.prog.info? 9).map (fun i => (i.zero, i.size, i.bytes)) = some (some (.string ⟨#[]⟩), 1, 16) := by kernel_rfl

theorem indexByte_lt (c : UInt8) : ∀ l : List UInt8, Lib.indexByte l c < (l.length : Int) ∨ Lib.indexByte l c = -1
 | [] => .inr rfl
 | x :: l => by
  unfold Lib.indexByte
  by_cases h : x == c
  · rw [if_pos h]; left; simp
  · rw [if_neg h]
    by_cases h2 : (Lib.indexByte l c == -1) = true
    · rw [if_pos h2]; exact .inr rfl
    · rw [if_neg h2]
      rcases indexByte_lt c l with h3 | h3
      · left; simp; omega
      · simp [h3] at h2

theorem ownsRow_take {w : World} {B e n m c : Nat} {A : Option Addr} {xs : List Value} (h : w.ownsRow B e 1 (.slice A n c) n xs) (hm : m ≤ n) (h0 : 0 < n) : w.ownsRow B e 1 (.slice A m c) m (xs.take m) := by
 refine ⟨by rw [List.length_take, h.1]; omega, ?_⟩
 rcases h.2 with ⟨_, h2⟩ | ⟨g, cap, cur, h1, hb, hg, hc, hm2, hs, ht⟩
 · omega
 · injection h1 with h3 _ h4
   subst h3 h4
   exact .inr ⟨g, c, cur, rfl, hb, hg, by omega, hm2, hs, by rw [← ht, List.take_take]; congr 1; omega⟩

theorem mem_set {α : Type} {l : List α} {i : Nat} {x y : α} (h : y ∈ l.set i x) : y = x ∨ y ∈ l := by
 rcases List.mem_or_eq_of_mem_set h with h | h
 · exact .inr h
 · exact .inl h
theorem split_step {w : World} {B g n c i : Nat} {ts : List ByteArray} {r : ByteArray} (h : w.ownsRow B 9 1 (.slice (some ⟨g, 0, none⟩) n c) n (ts.map .string)) (hts : ∀ t ∈ ts, t.size ≤ 40) (hr : r.size ≤ 40) :
    (w.setCell ⟨g, i, none⟩ (.string r)).ownsRow B 9 1 (.slice (some ⟨g, 0, none⟩) n c) n ((ts.set i r).map .string) ∧ (∀ t ∈ ts.set i r, t.size ≤ 40) ∧ Fr (fun j => j = g) w (w.setCell ⟨g, i, none⟩ (.string r)) := by
 have st := World.ownsRow.stored h i (.string r)
 refine ⟨by rw [List.map_set]; exact st.1, fun t ht => ?_, (Fr.of_grown st.2).mono (fun _ _ e => by injection e with e; exact e.symm)⟩
 rcases mem_set ht with rfl | ht
 · exact hr
 · exact hts t ht

/-- A text parted at signs '-', at n of them at most. -/
def splitF : Nat → ByteArray → List ByteArray
 | 0, r => [r]
 | n + 1, r => if Lib.indexByte r.data.toList 45 < 0 then [r] else r.extract 0 (Lib.indexByte r.data.toList 45).toNat :: splitF n (r.extract (Lib.indexByte r.data.toList 45 + 1).toNat r.size)
def splitOf (s : ByteArray) : List ByteArray := splitF (Lib.countByte s.data.toList 45) s
theorem take_set {α : Type} (l : List α) (i : Nat) (x : α) (h : i < l.length) : (l.set i x).take (i + 1) = l.take i ++ [x] := by
 apply List.ext_getElem?
 intro j
 rw [List.getElem?_take]
 by_cases hj : j < i
 · rw [if_pos (by omega), List.getElem?_set_ne (by omega), List.getElem?_append_left (by rw [List.length_take]; omega), List.getElem?_take, if_pos hj]
 · by_cases hji : j = i
   · subst hji
     rw [if_pos (by omega), List.getElem?_set_self h, List.getElem?_append_right (by rw [List.length_take]; omega)]
     simp [List.length_take, Nat.min_eq_left (Nat.le_of_lt h)]
   · rw [if_neg (by omega), List.getElem?_eq_none (by simp; omega)]

def SplitPost (s : ByteArray) (w : World) (e : Ending) (w' : World) : Prop :=
 ∃ (A : Option Addr) (n c : Nat), e = .returned (.slice A n c) ∧ w'.ownsRow w.heap.size 9 1 (.slice A n c) n ((splitOf s).map .string) ∧ (∀ t ∈ splitOf s, t.size ≤ 40) ∧ n ≤ 41 ∧ Fr (fun _ => False) w w'

theorem gensplit_any (s : ByteArray) (w : World) (hs : s.size ≤ 40) : Calls Tryz.prog 274 #[.string s, .string ⟨#[45]⟩, .int .i64 0, .int .i64 (-1)] w (SplitPost s w) := by
 have HSO := Lib.hid (show splitOf s = splitF (Lib.countByte s.data.toList 45) s from rfl)
 obtain ⟨so, hso⟩ : ∃ so, so = splitOf s := ⟨_, rfl⟩
 rw [← hso] at HSO
 have HSE := Lib.hid hso
 clear hso
 obtain ⟨i9, hi9, hz90, hz91, hz92⟩ := info_parts info9
 have hcnt : Lib.countByte s.data.toList 45 ≤ s.size := by
  have := List.count_le_length (a := (45 : UInt8)) (l := s.data.toList)
  have e : s.data.toList.length = s.size := by simp
  unfold Lib.countByte
  omega
 have HC := Lib.hid (fun w => Tryz.strings_Count_one s 45 w)
 generalize Lib.countByte s.data.toList 45 = cnt at *
 have h1 : ¬ ((s.size : Int) < (cnt : Int)) := by omega
 have hs' : (s.size : Int) ≤ 40 := by omega
 have hmin : min (cnt : Int) (s.size : Int) = (cnt : Int) := by omega
 go_enter Tryz.func274, Tryz.ntmps274
 go_wp2_with fail
 refine (HC.out w).mono ?_
 rintro e w1 ⟨rfl, rfl⟩
 go_wp2_with (at_make; refine wpList_make_full _ rfl _ _ 28 rfl w1.heap.size 9 i9 _ 1 Tryz.underlying28 hi9 hz90 hz91 _ _ _ _ (cnt + 1) (by rfl) (by rfl) rfl rfl (by rw [hz92]; omega) (by unfold maxLen; omega) (by omega) ?_; intro w4 hrow hgr4)
 have hf4 : Fr (fun j => w1.heap.size ≤ j) w1 w4 := (Fr.of_grown hgr4).mono (fun _ _ e => by cases e)
 have hse : (madeCells (Value.string ⟨#[]⟩).cells ((cnt + 1) * 1)).toList = (List.replicate (cnt + 1) (⟨#[]⟩ : ByteArray)).map Value.string := by
  rw [show (Value.string ⟨#[]⟩).cells = #[Value.string ⟨#[]⟩] from rfl, toList_madeCells_one, Nat.mul_one, List.map_replicate]
 rw [hse] at hrow
 have hlt := World.ownsRow.lt hrow w1.heap.size rfl
 have hsz4 := hf4.size
 have HF4 := Lib.hid hf4
 have HR4 := Lib.hid hrow
 clear hse hrow hgr4 hf4 hmin h1
 go_wp2_with fail
 go_loopw [0, 10] (fun sv iv wr => ∃ (r : ByteArray) (i : Nat) (ts : List ByteArray), sv = .string r ∧ iv = .int .i64 (i : Int) ∧ r.size ≤ s.size ∧ i ≤ cnt ∧ wr.ownsRow w1.heap.size 9 1 (.slice (some ⟨w1.heap.size, 0, none⟩) (cnt + 1) (cnt + 1)) (cnt + 1) (ts.map .string) ∧ (∀ t ∈ ts, t.size ≤ 40) ∧ Fr (fun j => w1.heap.size ≤ j) w1 wr ∧ ts.take i ++ splitF (cnt - i) r = so) (fun _ iv _ => cnt - (intOf iv).toNat)
 case atStart => exact ⟨s, 0, _, rfl, rfl, Nat.le_refl _, Nat.zero_le _, HR4.out, (fun t ht => by rw [List.eq_of_mem_replicate ht]; decide), HF4.out, by rw [HSO.out]; simp⟩
 case round =>
  obtain ⟨r, i, ts, rfl, rfl, hr, hi, hrow, hts, hf, hsp⟩ := hrel
  have HSP := Lib.hid hsp
  clear hsp
  have hrs : (r.size : Int) ≤ 40 := by omega
  have hszr := hf.size
  have g0 : ∀ j, wr.frozen? ⟨w1.heap.size, j, none⟩ = false := fun j => World.ownsRow.frozenAt hrow j
  have gi := g0 i
  have hlen : ts.length = cnt + 1 := by have := hrow.1; simpa using this
  have hci : wr.cell? ⟨w1.heap.size, i, none⟩ = some (.string (ts.getD i ⟨#[]⟩)) := by
   rw [World.ownsRow.cellAt hrow i (by omega), List.getElem?_map, List.getD_eq_getElem?_getD]
   rw [List.getElem?_eq_getElem (by omega)]
   rfl
  have fin := Lib.hid (fun (t : ByteArray) (ht : t.size ≤ 40) => split_step (i := i) hrow hts ht)
  have HTS := Lib.hid hts
  have HF := Lib.hid hf
  clear g0 hrow hf hts
  by_cases hlt2 : i < cnt
  · have hlt3 : (i : Int) < (cnt : Int) := by omega
    have HSTEP := Lib.hid (show splitF (cnt - i) r = if Lib.indexByte r.data.toList 45 < 0 then [r] else r.extract 0 (Lib.indexByte r.data.toList 45).toNat :: splitF (cnt - (i + 1)) (r.extract (Lib.indexByte r.data.toList 45 + 1).toNat r.size) by
     obtain ⟨k, hk⟩ : ∃ k, cnt - i = k + 1 := ⟨cnt - i - 1, by omega⟩
     rw [hk, show cnt - (i + 1) = k by omega]
     rfl)
    have hix := indexByte_lt 45 r.data.toList
    have hix2 := Lib.indexByte_ge r.data.toList 45
    have el : (r.data.toList.length : Int) = (r.size : Int) := by simp
    rw [el] at hix
    have HI := Lib.hid (fun w => Tryz.strings_Index_one r 45 w)
    generalize Lib.indexByte r.data.toList 45 = m at *
    have HLEN := Lib.hid hlen
    clear el
    by_cases hm : m < 0
    · have hm' : decide (m < 0) = true := decide_eq_true hm
      go_wp2_with fail
      refine (HI.out _).mono ?_
      rintro e w5 ⟨rfl, rfl⟩
      go_wp2_with fail
      go_ret
      have T := fin.out r (by omega)
      have E : so = (ts.set i r).take (i + 1) := by
       rw [← HSP.out, HSTEP.out, if_pos hm, take_set _ _ _ (by omega)]
      exact ⟨_, i + 1, _, rfl, by rw [← HSE.out, E, List.map_take]; exact ownsRow_take T.1 (by omega) (by omega), fun t ht => by rw [← HSE.out, E] at ht; exact T.2.1 t (List.mem_of_mem_take ht), by omega, (HF.out.trans T.2.2 (fun j hj e => by omega)).shut (Nat.le_refl _)⟩
    · have hm0 : 0 ≤ m := by omega
      have hm' : decide (m < 0) = false := decide_eq_false hm
      have hm1 : m < (r.size : Int) := by omega
      go_wp2_with fail
      refine (HI.out _).mono ?_
      rintro e w5 ⟨rfl, rfl⟩
      go_wp2_with fail
      go_roundw
      case rel =>
       have T := fin.out (r.extract 0 m.toNat) (by rw [ByteArray.size_extract]; omega)
       exact ⟨_, i + 1, ts.set i (r.extract 0 m.toNat), rfl, by go_num, by rw [ByteArray.size_extract]; omega, by omega, T.1, T.2.1, HF.out.trans T.2.2 (fun j hj e => by omega), by rw [take_set _ _ _ (by omega), ← HSP.out, HSTEP.out, if_neg (by omega), List.append_assoc]; rfl⟩
      case measure => simp [intOf]; omega
  · have hie : i = cnt := by omega
    subst hie
    clear hlt2
    go_wp2_with fail
    go_ret
    have T := fin.out r (by omega)
    have E : so = (ts.set i r).take (i + 1) := by
     rw [← HSP.out, Nat.sub_self, take_set _ _ _ (by omega)]
     rfl
    exact ⟨_, i + 1, _, rfl, by rw [← HSE.out, E, List.map_take]; exact ownsRow_take T.1 (by omega) (by omega), fun t ht => by rw [← HSE.out, E] at ht; exact T.2.1 t (List.mem_of_mem_take ht), by omega, (HF.out.trans T.2.2 (fun j hj e => by omega)).shut (Nat.le_refl _)⟩

theorem split_any (s : ByteArray) (w : World) (hs : s.size ≤ 40) : Calls Tryz.prog 273 #[.string s, .string ⟨#[45]⟩] w (SplitPost s w) := by
 go_enter Tryz.func273, Tryz.ntmps273
 go_wp2_with fail
 refine (gensplit_any s w hs).mono ?_
 rintro e w1 ⟨A, n, c, rfl, h⟩
 go_wp2_with fail
 go_ret
 exact ⟨A, n, c, rfl, h⟩

theorem row_le {w : World} {B e size n c : Nat} {A : Option Addr} {xs : List Value} (h : w.ownsRow B e size (.slice A n c) n xs) : n ≤ c := by
 rcases h.2 with ⟨h1, h2⟩ | ⟨g, cap, cur, h1, _, _, h2, _⟩
 · omega
 · injection h1 with _ _ h3
   omega
theorem row_form {w : World} {B e size n c : Nat} {A : Option Addr} {xs : List Value} (h : w.ownsRow B e size (.slice A n c) n xs) (hn : 0 < n) : ∃ g, A = some ⟨g, 0, none⟩ ∧ B ≤ g ∧ g < w.heap.size ∧ n ≤ c := by
 obtain ⟨g, cap, hv, hb, hl⟩ := World.ownsRow.form h hn
 injection hv with h1 _ _
 exact ⟨g, h1, hb, hl, row_le h⟩

/-- May a sign stand in part k of a language? -/
def langSign (k : Nat) (r : Int) : Bool := plainOf r && (!decide (k = 0) || (classOf r == 1))
def partFrom (k : Nat) (s : ByteArray) (p : Nat) : Bool :=
 if h : p < s.size then langSign k ((Utf8.decode s p).1 : Int) && partFrom k s (p + (Utf8.decode s p).2) else true
termination_by s.size - p
decreasing_by have := width_pos s p h; omega
theorem partFrom_step (k : Nat) (s : ByteArray) (p : Nat) (h : p < s.size) : partFrom k s p = (langSign k ((Utf8.decode s p).1 : Int) && partFrom k s (p + (Utf8.decode s p).2)) := by
 rw [partFrom, dif_pos h]
theorem partFrom_end (k : Nat) (s : ByteArray) (p : Nat) (h : ¬ p < s.size) : partFrom k s p = true := by
 rw [partFrom, dif_neg h]
def langPart (k : Nat) (t : ByteArray) : Bool := !t.toList.isEmpty && (!decide (8 < t.size) && partFrom k t 0)
def langAll : Nat → List ByteArray → Bool
 | _, [] => true
 | k, t :: ts => langPart k t && langAll (k + 1) ts
def langOf (s : ByteArray) : Bool := !decide (40 < s.size) && langAll 0 (splitOf s)

theorem lang_any (s : ByteArray) (w : World) (hs : s.size ≤ 4096) : Calls Tryz.prog 272 #[.string s] w (IsB (langOf s) w) := by
 have HLO := Lib.hid (show langOf s = (!decide (40 < s.size) && langAll 0 (splitOf s)) from rfl)
 generalize langOf s = lo at *
 have hs1 : (s.size : Int) ≤ 4096 := by omega
 by_cases hl : 40 < s.size
 · have hl' : decide (40 < s.size) = true := decide_eq_true hl
   have hl2 : decide ((40 : Int) < (s.size : Int)) = true := decide_eq_true (by omega)
   go_enter Tryz.func272, Tryz.ntmps272
   have HH := Lib.hid hl'
   go_wp2_with fail
   go_ret
   exact IsB.of (Fr.refl _ _) (by rw [HLO.out, HH.out]; rfl)
 · have hl2 : decide ((40 : Int) < (s.size : Int)) = false := decide_eq_false (by omega)
   rw [show decide (40 < s.size) = false from decide_eq_false (by omega), Bool.not_false, Bool.true_and] at HLO
   have hs40 : s.size ≤ 40 := by omega
   clear hl
   go_enter Tryz.func272, Tryz.ntmps272
   go_wp2_with fail
   refine (split_any s w hs40).mono ?_
   rintro e w1 ⟨A, n, c, rfl, hrow, hts, hn, hf1⟩
   generalize splitOf s = ts at *
   have HROW := Lib.hid hrow
   have HTS := Lib.hid hts
   have HF1 := Lib.hid hf1
   have hsz1 := hf1.size
   clear hrow hts hf1 hs1 hl2 hs40
   go_wp2_with fail
   go_loopw [13] (fun iv wr => ∃ k : Nat, iv = .int .i64 (k : Int) ∧ k ≤ n ∧ Fr (fun j => w1.heap.size ≤ j) w1 wr ∧ langAll k (ts.drop k) = lo) (fun iv _ => n - (intOf iv).toNat)
   case atStart => exact ⟨0, rfl, Nat.zero_le _, Fr.refl _ _, by rw [List.drop_zero]; exact HLO.out.symm⟩
   case round =>
    obtain ⟨k, rfl, hk, hf, hla⟩ := hrel
    have hfe : Fr (fun _ => False) w wr := HF1.out.trans' (hf.shut (Nat.le_refl _))
    have HFE := Lib.hid hfe
    clear hfe
    by_cases hlt : k < n
    · have hlt' : (k : Int) < (n : Int) := by omega
      obtain ⟨g, hg, -, hgl, hgc⟩ := row_form HROW.out (by omega)
      subst hg
      have hrow := ownsRow_fr HROW.out hf (fun j hj e => by have := (World.ownsRow.lt HROW.out j hj).2; omega)
      have hlen : ts.length = n := by have := hrow.1; simpa using this
      have hck : wr.cell? ⟨g, k, none⟩ = some (.string (ts.getD k ⟨#[]⟩)) := by
       rw [World.ownsRow.cellAt hrow k (by omega), List.getElem?_map, List.getD_eq_getElem?_getD]
       rw [List.getElem?_eq_getElem (by omega)]
       rfl
      have hdr : langAll k (ts.drop k) = (langPart k (ts.getD k ⟨#[]⟩) && langAll (k + 1) (ts.drop (k + 1))) := by
       rw [List.drop_eq_getElem_cons (by omega), List.getD_eq_getElem?_getD, List.getElem?_eq_getElem (by omega)]
       rfl
      rw [hdr] at hla
      have htk : (ts.getD k ⟨#[]⟩).size ≤ 40 := by
       rw [List.getD_eq_getElem?_getD, List.getElem?_eq_getElem (by omega)]
       exact HTS.out _ (List.getElem_mem _)
      generalize ts.getD k ⟨#[]⟩ = t at *
      have ht1 : (t.size : Int) ≤ 40 := by omega
      have HF := Lib.hid hf
      have hszr := hf.size
      unfold langPart at hla
      have HLA := Lib.hid hla
      clear hrow hf hlen hla hdr
      obtain ⟨wo, rfl⟩ : ∃ wo, wo = wr := ⟨wr, rfl⟩
      by_cases h1 : t.toList = []
      · have h1' : t.toList.isEmpty = true := by rw [h1]; rfl
        have h1e : (t.toList == []) = true := by rw [h1]; rfl
        have H1 := Lib.hid h1'
        clear h1
        go_wp2_with fail
        go_ret
        exact IsB.of HFE.out (by rw [← HLA.out, H1.out]; rfl)
      · have h1' : t.toList.isEmpty = false := by
         cases ht : t.toList with
         | nil => exact absurd ht h1
         | cons a l => rfl
        have h1e : (t.toList == []) = false := by
         cases ht : t.toList with
         | nil => exact absurd ht h1
         | cons a l => rfl
        have H1 := Lib.hid h1'
        by_cases h2 : 8 < t.size
        · have h2' : decide (8 < t.size) = true := decide_eq_true h2
          have h2e : decide ((8 : Int) < (t.size : Int)) = true := decide_eq_true (by omega)
          have H2 := Lib.hid h2'
          clear h2
          go_wp2_with fail
          go_ret
          exact IsB.of HFE.out (by rw [← HLA.out, H2.out]; simp)
        · have h2' : decide (8 < t.size) = false := decide_eq_false h2
          have h2e : decide ((8 : Int) < (t.size : Int)) = false := decide_eq_false (by omega)
          have H2 := Lib.hid h2'
          clear h2
          go_wp2_with fail
          go_loopg [] (t.size) (fun g wi => ∃ (p : Nat), t.size ≤ p + g ∧ ItAt wi wo.heap.size t p ∧ Fr (fun j => wo.heap.size ≤ j) wo wi ∧ partFrom k t p = partFrom k t 0)
          case atStart => exact ⟨0, by omega, ItAt.new wo t 0, (Fr.refl _ _).alloc _, rfl⟩
          case round =>
           obtain ⟨p, hg, hit, hfi, htx⟩ := hrel
           clear hck
           by_cases hp : p < t.size
           · have hnx := run_next_it hit hp
             have hwd := width_pos t p hp
             have hit2 := hit.set (p + (Utf8.decode t p).2)
             have hfi2 : Fr (fun j => wo.heap.size ≤ j) wo (World.itSet wr wo.heap.size t (p + (Utf8.decode t p).2)) := hfi.trans (hit.frS _) (fun i hi e => by omega)
             rw [partFrom_step k t p hp] at htx
             have hvr := decode_valid t p
             have HIT := Lib.hid hit2
             have HFI0 := Lib.hid hfi2
             generalize World.itSet wr wo.heap.size t (p + (Utf8.decode t p).2) = w3 at *
             generalize (Utf8.decode t p).2 = wd at *
             generalize (Utf8.decode t p).1 = r at *
             have HPL := Lib.hid (fun w => plain_any r w hvr)
             have HCL := Lib.hid (fun w => class_any r w hvr)
             unfold langSign at htx
             generalize plainOf (r : Int) = pl at *
             generalize classOf (r : Int) = c5 at *
             have HTX := Lib.hid htx
             clear hit hfi hit2 hfi2 htx hvr
             go_wp2_with fail
             refine (HPL.out w3).mono ?_
             rintro e w4 ⟨rfl, rfl⟩
             have HFI := HFI0
             have HIT4 := HIT
             clear HIT HFI0
             cases pl with
             | false =>
              go_wp2_with fail
              go_ret
              exact IsB.of (HFE.out.trans' (HFI.out.shut (Nat.le_refl _))) (by rw [← HLA.out, ← HTX.out]; simp)
             | true =>
              by_cases h0 : k = 0
              · subst h0
                go_wp2_with fail
                refine (HCL.out w3).mono ?_
                rintro e w5 ⟨rfl, rfl⟩
                by_cases hc : c5 = 1
                · have hc' : (c5 != 1) = false := by simp [hc]
                  have HC5 := Lib.hid hc
                  clear hc
                  go_wp2_with fail
                  go_roundg (t.size - (p + wd))
                  case measure => omega
                  case rel => exact ⟨p + wd, by omega, HIT4.out, HFI.out, by have h := HTX.out; simpa [HC5.out] using h⟩
                · have hc' : (c5 != 1) = true := by simp [hc]
                  have HC5 := Lib.hid hc
                  clear hc
                  go_wp2_with fail
                  go_ret
                  exact IsB.of (HFE.out.trans' (HFI.out.shut (Nat.le_refl _))) (by rw [← HLA.out, ← HTX.out]; simp [HC5.out])
              · have h0' : ((k : Int) == 0) = false := by simp [h0]
                have HK0 := Lib.hid h0
                clear h0
                go_wp2_with fail
                go_roundg (t.size - (p + wd))
                case measure => omega
                case rel => exact ⟨p + wd, by omega, HIT4.out, HFI.out, by have h := HTX.out; simpa [HK0.out] using h⟩
           · have hnx := run_next_it_end hit hp
             rw [partFrom_end k t p hp] at htx
             have HTX := Lib.hid htx
             have HFI := Lib.hid hfi
             clear hit hfi htx
             go_wp2_with fail
             go_roundw
             case rel => exact ⟨k + 1, by go_num, by omega, HF.out.trans HFI.out (fun i hi e => by omega), by rw [← HLA.out, ← HTX.out, H1.out, H2.out]; simp⟩
             case measure => simp [intOf]; omega
    · have hge : (n : Int) ≤ (k : Int) := by omega
      have hlen : ts.length = n := by have := HROW.out.1; simpa using this
      rw [List.drop_eq_nil_of_le (by omega)] at hla
      have HLA := Lib.hid hla
      clear hf hla hlen
      go_wp2_with fail
      go_ret
      exact IsB.of HFE.out HLA.out.symm

theorem cell_fr {w w' : World} {a : Addr} {v : Value} (hf : Fr (fun _ => False) w w') (h : w.cell? a = some v) : w'.cell? a = some v := by
 have hl := World.block_lt_of_cell? w _ h
 rw [World.cell?_of_block (hf.block a.block hl (fun h => h))]
 exact h
theorem str_cell {w : World} {B g n c : Nat} {ss : List ByteArray} (h : w.ownsRow B 9 1 (.slice (some ⟨g, 0, none⟩) n c) n (ss.map .string)) (j : Nat) (hj : j < n) : w.cell? ⟨g, j, none⟩ = some (.string (ss.getD j ByteArray.empty)) := by
 have hl : ss.length = n := by have := h.1; simpa using this
 rw [World.ownsRow.cellAt h j (by omega), List.getElem?_map, List.getD_eq_getElem?_getD]
 rw [List.getElem?_eq_getElem (by omega)]
 rfl

/-! Of no strings. -/

end Go.Proofs.YtagchljgmjmlcaaGreatDoor
