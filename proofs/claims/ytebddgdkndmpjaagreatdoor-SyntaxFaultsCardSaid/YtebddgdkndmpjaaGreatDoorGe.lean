/- Classes of signs, texts, IRIs, blank nodes: walked. -/
import Derived.Test.YtebddgdkndmpjaaGreatDoorMem
import Derived.Test.YtebddgdkndmpjaaGreatDoorSf
import Derived.Lib.QuoteLoop
import Derived.Deep.CutBlock
import Derived.Deep.RegionLawGrows
import Derived.Deep.Cut
import Derived.Deep.CutRange
import Derived.WalkKit
import Derived.WalkLawsBesides
import Derived.WalkSpells
import Derived.Deep.QuietTactic
import Derived.BigRegion
import Derived.BigQuiet
import Derived.Lib.Hide
import Derived.Outline
import Derived.Deep.AppendLies
import Derived.Deep.RegionLaw
import Derived.Deep.RegionWith
import Derived.Deep.RegionHeld3
import Derived.Deep.LoopGhost
import Derived.Deep.DeepFit
import Derived.Laws.ResultCell
import Derived.Laws.RangeAny
import Derived.Deep.MidRow
import Derived.StillTailTactics
import Derived.OpenShut
import Derived.Laws.Runes
namespace Go.Proofs.YtebddgdkndmpjaaGreatDoor
set_option linter.unusedVariables false
open Go.RowKit Go

def IsB (b : Bool) (w : World) (e : Ending) (w' : World) : Prop := e = .returned (.bool b) ∧ Fr (fun _ => False) w w'
theorem IsB.mk {w w' : World} {b : Bool} (h : Fr (fun _ => False) w w') : IsB b w (.returned (.bool b)) w' := ⟨rfl, h⟩
theorem IsB.of {w w' : World} {b c : Bool} (h : Fr (fun _ => False) w w') (hc : c = b) : IsB c w (.returned (.bool b)) w' := ⟨by rw [hc], h⟩

/-- A sign's class. -/
def classOf (r : Int) : Int :=
  if r = 32 ∨ r = 9 ∨ r = 10 ∨ r = 13 then 0 else if (97 ≤ r ∧ r ≤ 122) ∨ (65 ≤ r ∧ r ≤ 90) then 1 else if 48 ≤ r ∧ r ≤ 57 then 2 else if 32 < r ∧ r ≤ 126 then 3 else if r < 160 then 4 else 5
theorem decode_valid (s : ByteArray) (p : Nat) : Lib.validRune ((Utf8.decode s p).1 : Int) = true := by
  have h := Lib.decodeN_valid (s.size - p) (s.get! p).toNat (s.get! (p + 1)).toNat (s.get! (p + 2)).toNat (s.get! (p + 3)).toNat (UInt8.toNat_lt _)
  rw [← Lib.decode_at] at h
  simp only [Lib.validRune, decide_eq_true_eq]
  omega

set_option maxRecDepth 100000 in
set_option maxHeartbeats 4000000 in
theorem class_of (r : Int) (w : World) (hv : Lib.validRune r = true) : Calls Tryz.prog 205 #[.int .i32 r] w fun e w' => e = .returned (.int .i64 (classOf r)) ∧ w = w' := by
  have HV := Tryz.utf8_ValidRune r w
  rw [hv] at HV
  obtain ⟨c, hc⟩ : ∃ c, c = classOf r := ⟨_, rfl⟩
  rw [← hc]
  have HC := Lib.hid hc
  clear hc hv
  go_enter Tryz.func205, Tryz.ntmps205
  go_wp2_with fail
  refine HV.mono ?_
  rintro e w1 ⟨rfl, rfl⟩
  go_wp2_with fail
  all_goals (go_ret; refine ⟨congrArg (fun n => Ending.returned (.int .i64 n)) ?_, rfl⟩; rw [HC.out]; unfold classOf; (try simp only [beq_iff_eq, beq_eq_false_iff_ne, ne_eq] at *); (repeat' split) <;> omega)

theorem class_any (r : Int) (w : World) (hv : Lib.validRune r = true) : Calls Tryz.prog 205 #[.int .i32 r] w fun e w' => e = .returned (.int .i64 (classOf r)) ∧ w = w' := class_of r w hv
/-- Is it a letter or a digit? -/
def plainOf (r : Int) : Bool := (classOf r == 1) || (classOf r == 2)
theorem plain_any (r : Int) (w : World) (hv : Lib.validRune r = true) : Calls Tryz.prog 421 #[.int .i32 r] w fun e w' => e = .returned (.bool (plainOf r)) ∧ w = w' := by
  have HC := Lib.hid (class_any r w hv)
  unfold plainOf
  generalize classOf r = c at *
  by_cases h : c = 1
  · have h' : (c == 1) = true := by simp [h]
    have h2 : (c == 2) = false := by simp [h]
    clear h
    rw [h', Bool.true_or]
    go_enter Tryz.func421, Tryz.ntmps421
    go_wp2_with fail
    refine HC.out.mono ?_
    rintro e w1 ⟨rfl, rfl⟩
    go_wp2_with fail
    go_ret
    exact ⟨rfl, rfl⟩
  · have h' : (c == 1) = false := by simp [h]
    clear h
    rw [h', Bool.false_or]
    go_enter Tryz.func421, Tryz.ntmps421
    go_wp2_with fail
    refine HC.out.mono ?_
    rintro e w1 ⟨rfl, rfl⟩
    go_wp2_with fail
    refine HC.out.mono ?_
    rintro e w1 ⟨rfl, rfl⟩
    go_wp2_with fail
    go_ret
    exact ⟨rfl, rfl⟩

/-- An iterator over a string, at a place. -/
def ItAt (w : World) (g : Nat) (s : ByteArray) (pos : Nat) : Prop := w.heap[g]? = some (.stringIter s pos)
def World.itSet (w : World) (g : Nat) (s : ByteArray) (pos : Nat) : World := { w with heap := w.heap.setIfInBounds g (.stringIter s pos) }
theorem ItAt.lt {w : World} {g pos : Nat} {s : ByteArray} (h : ItAt w g s pos) : g < w.heap.size := (Array.getElem?_eq_some_iff.1 h).1
theorem ItAt.set {w : World} {g pos : Nat} {s : ByteArray} (h : ItAt w g s pos) (p' : Nat) : ItAt (World.itSet w g s p') g s p' := by
  have := h.lt
  show (w.heap.setIfInBounds g _)[g]? = _
  simp [this]
theorem ItAt.frS {w : World} {g pos : Nat} {s : ByteArray} (h : ItAt w g s pos) (p' : Nat) : Fr (fun j => j = g) w (World.itSet w g s p') :=
  ⟨rfl, rfl, rfl, by simp [World.itSet], fun k hk hn => by
    show (w.heap.setIfInBounds g _)[k]? = _
    rw [Array.getElem?_setIfInBounds_ne (fun e => hn e.symm)]⟩
theorem ItAt.fr {S : Nat → Prop} {w w' : World} {g pos : Nat} {s : ByteArray} (h : ItAt w g s pos) (hf : Fr S w w') (hn : ¬ S g) : ItAt w' g s pos := (hf.block g h.lt hn).trans h
theorem ItAt.new (w : World) (s : ByteArray) (p : Nat) : ItAt (w.iter s p) w.heap.size s p := World.iter_heap w s p
theorem run_next_it {w : World} {g pos : Nat} {s : ByteArray} (h : ItAt w g s pos) (hp : pos < s.size) (ty : TypeId) :
    (Instr.next (.pointer (some ⟨g, 0, none⟩)) true ty).run Tryz.prog w = .ok (.tuple #[.bool true, .int .i64 pos, .int .i32 (Utf8.decode s pos).1]) (World.itSet w g s (pos + (Utf8.decode s pos).2)) := by
  unfold ItAt at h
  have hg : g < w.heap.size := (Array.getElem?_eq_some_iff.1 h).1
  simp [Instr.next, getObj, setObj, Sem.run_bind, Sem.run, h, Result.andThen, hp, World.itSet, goInt]
theorem run_next_it_end {w : World} {g pos : Nat} {s : ByteArray} (h : ItAt w g s pos) (hp : ¬ pos < s.size) (ty : TypeId) :
    (Instr.next (.pointer (some ⟨g, 0, none⟩)) true ty).run Tryz.prog w = .ok (.tuple #[.bool false]) w := by
  unfold ItAt at h
  simp [Instr.next, getObj, Sem.run_bind, Sem.run, h, Result.andThen, hp]
theorem width_pos (s : ByteArray) (pos : Nat) (h : pos < s.size) : 1 ≤ (Utf8.decode s pos).2 := by
  by_cases ha : (s[pos]'h).toNat < 128
  · rw [decode_ascii s pos h ha]
    exact Nat.le_refl _
  · exact (decode_high s pos h (by omega)).2

theorem Fr.shut {n : Nat} {w w' : World} (h : Fr (fun j => n ≤ j) w w') (hn : w.heap.size ≤ n) : Fr (fun _ => False) w w' := ⟨h.os, h.tape, h.output, h.size, fun k hk _ => h.block k hk (by omega)⟩

/-- Is what stands at a place a sign? -/
def okS (s : ByteArray) (p r : Nat) : Bool := !decide (r = 65533) || Lib.hasPrefix (s.extract p s.size).data.toList [239, 191, 189]
/-- Are bytes, from a place on, a text? -/
def textFrom (s : ByteArray) (p : Nat) : Bool :=
  if h : p < s.size then okS s p (Utf8.decode s p).1 && textFrom s (p + (Utf8.decode s p).2) else true
termination_by s.size - p
decreasing_by have := width_pos s p h; omega
theorem textFrom_step (s : ByteArray) (p : Nat) (h : p < s.size) : textFrom s p = (okS s p (Utf8.decode s p).1 && textFrom s (p + (Utf8.decode s p).2)) := by
  rw [textFrom, dif_pos h]
theorem textFrom_end (s : ByteArray) (p : Nat) (h : ¬ p < s.size) : textFrom s p = true := by
  rw [textFrom, dif_neg h]

def WrongPost (s : ByteArray) (w : World) (e : Ending) (w' : World) : Prop := ∃ n : Int, e = .returned (.int .i64 n) ∧ decide (n < 0) = textFrom s 0 ∧ Fr (fun _ => False) w w'

set_option maxRecDepth 100000 in
set_option maxHeartbeats 4000000 in
theorem wrong_any (s : ByteArray) (w : World) (hs : s.size ≤ 4096) : Calls Tryz.prog 50 #[.string s] w (WrongPost s w) := by
  go_enter Tryz.func50, Tryz.ntmps50
  go_wp2_with fail
  go_loopg [3] (s.size) (fun g nv wr => ∃ (p : Nat) (n : Nat), nv = .int .i64 (n : Int) ∧ n ≤ p ∧ s.size ≤ p + g ∧ ItAt wr w.heap.size s p ∧ Fr (fun j => w.heap.size ≤ j) w wr ∧ textFrom s p = textFrom s 0)
  case atStart => exact ⟨0, 0, rfl, Nat.le_refl _, by omega, ItAt.new w s 0, (Fr.refl _ _).alloc _, rfl⟩
  case round =>
    obtain ⟨p, n, rfl, hn, hg, hit, hf, htx⟩ := hrel
    by_cases hp : p < s.size
    · have hnx := run_next_it hit hp
      have hwd := width_pos s p hp
      have hit2 := hit.set (p + (Utf8.decode s p).2)
      have hf2 : Fr (fun j => w.heap.size ≤ j) w (World.itSet wr w.heap.size s (p + (Utf8.decode s p).2)) := hf.trans (hit.frS _) (fun i hi e => by omega)
      have hp1 : (p : Int) ≤ (s.size : Int) := by omega
      have hs1 : (s.size : Int) ≤ 4096 := by omega
      rw [textFrom_step s p hp] at htx
      have HIT := Lib.hid hit2
      have HF := Lib.hid hf2
      generalize World.itSet wr w.heap.size s (p + (Utf8.decode s p).2) = w2 at *
      generalize (Utf8.decode s p).2 = wd at *
      generalize (Utf8.decode s p).1 = r at *
      unfold okS at htx
      have HTX := Lib.hid htx
      clear hit hf hit2 hf2 htx
      by_cases hr : (r : Int) = 65533
      · have hr' : ((r : Int) == 65533) = true := by simp [hr]
        have HR := Lib.hid (show decide (r = 65533) = true from decide_eq_true (by omega))
        clear hr
        go_wp2_with fail
        refine (Tryz.strings_HasPrefix _ _ _).mono ?_
        rintro e w3 ⟨rfl, rfl⟩
        generalize hb : Lib.hasPrefix _ _ = b
        have HB := Lib.hid hb
        clear hb
        cases b with
        | true =>
          go_wp2_with fail
          go_roundg (s.size - (p + wd))
          case measure => omega
          case rel => exact ⟨p + wd, n + 1, by go_num, by omega, by omega, HIT.out, HF.out, by have h1 := HTX.out; have h2 := HB.out; rw [h2, HR.out] at h1; simpa using h1⟩
        | false =>
          go_wp2_with fail
          go_ret
          exact ⟨_, rfl, by have h1 := HTX.out; have h2 := HB.out; rw [h2, HR.out] at h1; rw [← h1]; simp, HF.out.shut (Nat.le_refl _)⟩
      · have hr' : ((r : Int) == 65533) = false := by simp [hr]
        have HR := Lib.hid (show decide (r = 65533) = false from decide_eq_false (by omega))
        clear hr
        go_wp2_with fail
        go_roundg (s.size - (p + wd))
        case measure => omega
        case rel => exact ⟨p + wd, n + 1, by go_num, by omega, by omega, HIT.out, HF.out, by have h1 := HTX.out; rw [HR.out] at h1; simpa using h1⟩
    · have hnx := run_next_it_end hit hp
      rw [textFrom_end s p hp] at htx
      have HTX := Lib.hid htx
      clear hit htx
      go_wp2_with fail
      go_ret
      exact ⟨_, rfl, by rw [← HTX.out]; rfl, hf.shut (Nat.le_refl _)⟩

theorem good_any (s : ByteArray) (w : World) (hs : s.size ≤ 4096) : Calls Tryz.prog 415 #[.string s] w (IsB (textFrom s 0) w) := by
  go_enter Tryz.func415, Tryz.ntmps415
  go_wp2_with fail
  refine (wrong_any s w hs).mono ?_
  rintro e w1 ⟨n, rfl, hd, hf⟩
  have HD := Lib.hid hd
  clear hd
  go_wp2_with fail
  go_ret
  exact IsB.of hf HD.out.symm

def forb : ByteArray := ⟨#[60, 62, 34, 123, 125, 124, 94, 96, 92]⟩

/-- Is a sign one that no IRI has? -/
def forbOf (r : Int) : Bool := decide (r = 60 ∨ r = 62 ∨ r = 34 ∨ r = 123 ∨ r = 125 ∨ r = 124 ∨ r = 94 ∨ r = 96 ∨ r = 92)
theorem forb_fin : ∀ k : Fin 128, decide (0 ≤ Lib.indexByte [60, 62, 34, 123, 125, 124, 94, 96, 92] (k : Nat).toUInt8) = forbOf ((k : Nat) : Int) := by decide +kernel
theorem forb_low (r : Int) (h0 : 0 ≤ r) (h : r < 128) : decide (0 ≤ Lib.indexByte [60, 62, 34, 123, 125, 124, 94, 96, 92] r.toNat.toUInt8) = forbOf r := by
  have := forb_fin ⟨r.toNat, by omega⟩
  simp only at this
  rw [this]
  congr 1
  omega
theorem forb_high (r : Int) (h : 128 ≤ r) : forbOf r = false := decide_eq_false (by omega)
def RunePost (b : Bool) (w : World) (e : Ending) (w' : World) : Prop := ∃ n : Int, e = .returned (.int .i64 n) ∧ decide (0 ≤ n) = b ∧ Fr (fun _ => False) w w'

theorem index_none (c : UInt8) (hc : 128 ≤ c.toNat) : ∀ l : List UInt8, (∀ x ∈ l, x.toNat < 128) → Lib.indexByte l c = -1
  | [], _ => rfl
  | x :: l, h => by
    have hx := h x (by simp)
    have ih := index_none c hc l (fun y hy => h y (by simp [hy]))
    have hne : ¬ x = c := fun e => by rw [e] at hx; omega
    unfold Lib.indexByte
    simp [hne, ih]

set_option maxRecDepth 100000 in
set_option maxHeartbeats 4000000 in
theorem idxrune_err (s : ByteArray) (w : World) (hs : s.size ≤ 4096) (hA : ∀ p (h : p < s.size), (s[p]'h).toNat < 128) : Calls Tryz.prog 422 #[.string s, .int .i32 65533] w (RunePost false w) := by
  have HA := Lib.hid hA
  clear hA
  go_enter Tryz.func422, Tryz.ntmps422
  go_wp2_with fail
  go_loopg [] (s.size) (fun g wr => ∃ (p : Nat), s.size ≤ p + g ∧ ItAt wr w.heap.size s p ∧ Fr (fun j => w.heap.size ≤ j) w wr)
  case atStart => exact ⟨0, by omega, ItAt.new w s 0, (Fr.refl _ _).alloc _⟩
  case round =>
    obtain ⟨p, hg, hit, hf⟩ := hrel
    by_cases hp : p < s.size
    · have hnx := run_next_it hit hp
      have hwd := width_pos s p hp
      have hr1 : (Utf8.decode s p).1 < 128 := by rw [decode_ascii s p hp (HA.out p hp)]; exact HA.out p hp
      have hit2 := hit.set (p + (Utf8.decode s p).2)
      have hf2 : Fr (fun j => w.heap.size ≤ j) w (World.itSet wr w.heap.size s (p + (Utf8.decode s p).2)) := hf.trans (hit.frS _) (fun i hi e => by omega)
      have HIT := Lib.hid hit2
      have HF := Lib.hid hf2
      generalize World.itSet wr w.heap.size s (p + (Utf8.decode s p).2) = w2 at *
      generalize (Utf8.decode s p).2 = wd at *
      generalize (Utf8.decode s p).1 = r at *
      clear hit hf hit2 hf2
      have hr' : ((r : Int) == 65533) = false := by simp; omega
      go_wp2_with fail
      go_roundg (s.size - (p + wd))
      case measure => omega
      case rel => exact ⟨p + wd, by omega, HIT.out, HF.out⟩
    · have hnx := run_next_it_end hit hp
      clear hit
      go_wp2_with fail
      go_ret
      exact ⟨_, rfl, rfl, hf.shut (Nat.le_refl _)⟩

set_option maxRecDepth 100000 in
set_option maxHeartbeats 4000000 in
theorem idxrune_any (r : Int) (w : World) (h0 : 0 ≤ r) (hvr : Lib.validRune r = true) : Calls Tryz.prog 422 #[.string ⟨#[60, 62, 34, 123, 125, 124, 94, 96, 92]⟩, .int .i32 r] w (RunePost (forbOf r) w) := by
  by_cases h1 : r < 128
  · have h1' : decide (r < 128) = true := decide_eq_true h1
    have HFB := Lib.hid (forb_low r h0 h1)
    go_enter Tryz.func422, Tryz.ntmps422
    go_wp2_with fail
    refine (Tryz.strings_IndexByte _ _ _).mono ?_
    rintro e w1 ⟨rfl, rfl⟩
    go_wp2_with fail
    go_ret
    exact ⟨_, rfl, HFB.out, Fr.refl _ _⟩
  · have h1' : decide (r < 128) = false := decide_eq_false h1
    rw [forb_high r (by omega)]
    by_cases h2 : r = 65533
    · have h2' : (r == 65533) = true := by simp [h2]
      subst h2
      exact idxrune_err _ w (by decide) (by decide)
    · have h2' : (r == 65533) = false := by simp [h2]
      have hv := Tryz.utf8_ValidRune r w
      obtain ⟨b, hb⟩ : ∃ b, Lib.validRune r = b := ⟨_, rfl⟩
      rw [hb] at hv
      cases b with
      | false => rw [hvr] at hb; cases hb
      | true =>
        have hu : Utf8.valid r = true := by
          simp only [Lib.validRune, decide_eq_true_eq] at hb
          simp only [Utf8.valid, Bool.or_eq_true, Bool.and_eq_true, decide_eq_true_eq]
          omega
        obtain ⟨e1, e2, e3⟩ := encode_facts r hu (by omega)
        have hcv := fun wx => run_convert_int_string (P := Tryz.prog) wx 21 9 .i32 r (by kernel_rfl) Tryz.underlying9
        generalize Utf8.encode r = B at *
        obtain hm | hm | hm : B.size = 2 ∨ B.size = 3 ∨ B.size = 4 := by omega
        · obtain ⟨i, hi⟩ : ∃ i, i = B.size - 1 := ⟨_, rfl⟩
          simp only [← hi] at e3
          have hi2 : i = 1 := by omega
          subst hi2
          obtain ⟨c, hc⟩ : ∃ c, B[1]'(by omega) = c := ⟨_, rfl⟩
          have e4 : 128 ≤ c.toNat := by rw [← hc]; exact e3 (by omega)
          have e5 : c.toNat ≤ 255 := by have := c.toNat_lt; omega
          have hne : ((((⟨#[60, 62, 34, 123, 125, 124, 94, 96, 92]⟩ : ByteArray)[1]'(by decide)).toNat : Int) != (c.toNat : Int)) = true := by
            show (((62 : Nat) : Int) != (c.toNat : Int)) = true
            rw [bne_iff_ne]
            omega
          have hN : Lib.indexByte [34, 123, 125, 124, 94, 96, 92] c = -1 := index_none c e4 [34, 123, 125, 124, 94, 96, 92] (by decide)
          clear e1 e2 e3 hi
          go_enter Tryz.func422, Tryz.ntmps422
          go_wp2_with fail
          refine hv.mono ?_
          rintro e w1 ⟨rfl, rfl⟩
          go_wp2_with fail
          go_step3
          go_wp2_with fail
          go_loopg [9, 10, 12] (0) (fun g a b c wr => a = .int .i64 1 ∧ b = .int .i64 0 ∧ wr = w1)
          case atStart => exact ⟨rfl, rfl, rfl⟩
          case round =>
            obtain ⟨rfl, rfl, rfl⟩ := hrel
            have hwr : IntKind.i64.wrap 2 = 2 := by decide
            clear hv
            go_wp2_with fail
            go_step3
            go_wp2_with fail
            go_quiet (fail)
            have hq : Fr (fun _ => False) wr (wr.drewN nq) := (Fr.refl _ _).drewN nq
            generalize wr.drewN nq = w2 at hq ⊢
            go_wp2_with fail
            go_quiet ((go_at_call 418; exact Calls.quiet_of_same (Tryz.strings_IndexByte _ _ _)))
            have hq' : Fr (fun _ => False) wr (w2.drewN nq) := hq.drewN nq
            go_wp2_with fail
            rw [Exit.noGoto_ret]
            go_ret
            exact ⟨_, rfl, rfl, hq'⟩
        · obtain ⟨i, hi⟩ : ∃ i, i = B.size - 1 := ⟨_, rfl⟩
          simp only [← hi] at e3
          have hi2 : i = 2 := by omega
          subst hi2
          obtain ⟨c, hc⟩ : ∃ c, B[2]'(by omega) = c := ⟨_, rfl⟩
          have e4 : 128 ≤ c.toNat := by rw [← hc]; exact e3 (by omega)
          have e5 : c.toNat ≤ 255 := by have := c.toNat_lt; omega
          have hne : ((((⟨#[60, 62, 34, 123, 125, 124, 94, 96, 92]⟩ : ByteArray)[2]'(by decide)).toNat : Int) != (c.toNat : Int)) = true := by
            show (((34 : Nat) : Int) != (c.toNat : Int)) = true
            rw [bne_iff_ne]
            omega
          have hN : Lib.indexByte [123, 125, 124, 94, 96, 92] c = -1 := index_none c e4 [123, 125, 124, 94, 96, 92] (by decide)
          clear e1 e2 e3 hi
          go_enter Tryz.func422, Tryz.ntmps422
          go_wp2_with fail
          refine hv.mono ?_
          rintro e w1 ⟨rfl, rfl⟩
          go_wp2_with fail
          go_step3
          go_wp2_with fail
          go_loopg [9, 10, 12] (0) (fun g a b c wr => a = .int .i64 2 ∧ b = .int .i64 0 ∧ wr = w1)
          case atStart => exact ⟨rfl, rfl, rfl⟩
          case round =>
            obtain ⟨rfl, rfl, rfl⟩ := hrel
            have hwr : IntKind.i64.wrap 3 = 3 := by decide
            clear hv
            go_wp2_with fail
            go_step3
            go_wp2_with fail
            go_quiet (fail)
            have hq : Fr (fun _ => False) wr (wr.drewN nq) := (Fr.refl _ _).drewN nq
            generalize wr.drewN nq = w2 at hq ⊢
            go_wp2_with fail
            go_quiet ((go_at_call 418; exact Calls.quiet_of_same (Tryz.strings_IndexByte _ _ _)))
            have hq' : Fr (fun _ => False) wr (w2.drewN nq) := hq.drewN nq
            go_wp2_with fail
            rw [Exit.noGoto_ret]
            go_ret
            exact ⟨_, rfl, rfl, hq'⟩
        · obtain ⟨i, hi⟩ : ∃ i, i = B.size - 1 := ⟨_, rfl⟩
          simp only [← hi] at e3
          have hi2 : i = 3 := by omega
          subst hi2
          obtain ⟨c, hc⟩ : ∃ c, B[3]'(by omega) = c := ⟨_, rfl⟩
          have e4 : 128 ≤ c.toNat := by rw [← hc]; exact e3 (by omega)
          have e5 : c.toNat ≤ 255 := by have := c.toNat_lt; omega
          have hne : ((((⟨#[60, 62, 34, 123, 125, 124, 94, 96, 92]⟩ : ByteArray)[3]'(by decide)).toNat : Int) != (c.toNat : Int)) = true := by
            show (((123 : Nat) : Int) != (c.toNat : Int)) = true
            rw [bne_iff_ne]
            omega
          have hN : Lib.indexByte [125, 124, 94, 96, 92] c = -1 := index_none c e4 [125, 124, 94, 96, 92] (by decide)
          clear e1 e2 e3 hi
          go_enter Tryz.func422, Tryz.ntmps422
          go_wp2_with fail
          refine hv.mono ?_
          rintro e w1 ⟨rfl, rfl⟩
          go_wp2_with fail
          go_step3
          go_wp2_with fail
          go_loopg [9, 10, 12] (0) (fun g a b c wr => a = .int .i64 3 ∧ b = .int .i64 0 ∧ wr = w1)
          case atStart => exact ⟨rfl, rfl, rfl⟩
          case round =>
            obtain ⟨rfl, rfl, rfl⟩ := hrel
            have hwr : IntKind.i64.wrap 4 = 4 := by decide
            clear hv
            go_wp2_with fail
            go_step3
            go_wp2_with fail
            go_quiet (fail)
            have hq : Fr (fun _ => False) wr (wr.drewN nq) := (Fr.refl _ _).drewN nq
            generalize wr.drewN nq = w2 at hq ⊢
            go_wp2_with fail
            go_quiet ((go_at_call 418; exact Calls.quiet_of_same (Tryz.strings_IndexByte _ _ _)))
            have hq' : Fr (fun _ => False) wr (w2.drewN nq) := hq.drewN nq
            go_wp2_with fail
            rw [Exit.noGoto_ret]
            go_ret
            exact ⟨_, rfl, rfl, hq'⟩

theorem contains_any (r : Int) (w : World) (h0 : 0 ≤ r) (hvr : Lib.validRune r = true) : Calls Tryz.prog 419 #[.string ⟨#[60, 62, 34, 123, 125, 124, 94, 96, 92]⟩, .int .i32 r] w (IsB (forbOf r) w) := by
  have HX := Lib.hid (fun w => idxrune_any r w h0 hvr)
  clear hvr
  generalize forbOf r = b at *
  go_enter Tryz.func419, Tryz.ntmps419
  go_wp2_with fail
  refine (HX.out _).mono ?_
  rintro e w1 ⟨n, rfl, hd, hf⟩
  have HD := Lib.hid hd
  clear hd
  go_wp2_with fail
  go_ret
  exact IsB.of hf HD.out.symm

/-- May a sign stand in an IRI? -/
def iriSign (r : Int) : Bool := !(classOf r == 0 || classOf r == 4 || forbOf r)
def iriFrom (s : ByteArray) (p : Nat) : Bool :=
  if h : p < s.size then iriSign ((Utf8.decode s p).1 : Int) && iriFrom s (p + (Utf8.decode s p).2) else true
termination_by s.size - p
decreasing_by have := width_pos s p h; omega
theorem iriFrom_step (s : ByteArray) (p : Nat) (h : p < s.size) : iriFrom s p = (iriSign ((Utf8.decode s p).1 : Int) && iriFrom s (p + (Utf8.decode s p).2)) := by
  rw [iriFrom, dif_pos h]
theorem iriFrom_end (s : ByteArray) (p : Nat) (h : ¬ p < s.size) : iriFrom s p = true := by
  rw [iriFrom, dif_neg h]
/-- Is a text an IRI's? (Of one that isn't too long.) -/
def iriGood (s : ByteArray) : Bool := !decide (Lib.indexByte s.data.toList 58 < 1) && (textFrom s 0 && iriFrom s 0)

set_option maxRecDepth 100000 in
set_option maxHeartbeats 4000000 in
theorem iri_any (s : ByteArray) (w : World) (hs : s.size ≤ 4096) : Calls Tryz.prog 416 #[.agg #[.string s]] w (IsB (iriGood s) w) := by
  have HIG := Lib.hid (show iriGood s = (!decide (Lib.indexByte s.data.toList (58 : Int).toNat.toUInt8 < 1) && (textFrom s 0 && iriFrom s 0)) from rfl)
  generalize iriGood s = ig at *
  have hs' : decide (4096 < (s.size : Int)) = false := decide_eq_false (by omega)
  have HIX := Lib.hid (fun w => Tryz.strings_IndexByte s 58 w)
  have HG := Lib.hid (fun w => good_any s w hs)
  generalize Lib.indexByte s.data.toList (58 : Int).toNat.toUInt8 = ix at HIX HIG
  generalize htf : textFrom s 0 = tf at HG HIG
  clear htf
  have F0 : Fr (fun _ => False) w (w.alloc (.cells #[.string s] 198)) := (Fr.refl _ _).alloc _
  have hb := Blk.new w 198 #[.string s]
  by_cases h1 : ix < 1
  · have h1' : decide (ix < 1) = true := decide_eq_true h1
    go_enter Tryz.func416, Tryz.ntmps416
    go_wp2_with fail
    refine (HIX.out _).mono ?_
    rintro e w1 ⟨rfl, rfl⟩
    go_wp2_with fail
    go_ret
    exact IsB.of F0 (by rw [HIG.out]; simp [h1])
  · have h1' : decide (ix < 1) = false := decide_eq_false h1
    go_enter Tryz.func416, Tryz.ntmps416
    go_wp2_with fail
    refine (HIX.out _).mono ?_
    rintro e w1 ⟨rfl, rfl⟩
    go_wp2_with fail
    refine (HG.out _).mono ?_
    rintro e w2 ⟨rfl, hf2⟩
    have hb2 := hb.fr hf2 (fun h => h)
    have c0 : w2.cell? ⟨w.heap.size, 0, none⟩ = some (.string s) := hb2.cell 0
    have F2 := F0.trans' hf2
    have HF2 := Lib.hid F2
    have hsz2 := F2.size
    clear hf2 hb2 hb F0 F2
    have HH := Lib.hid h1'
    cases tf with
    | false =>
      go_wp2_with fail
      go_ret
      exact IsB.of HF2.out (by rw [HIG.out]; simp)
    | true =>
      go_wp2_with fail
      go_loopg [] (s.size) (fun g wr => ∃ (p : Nat), s.size ≤ p + g ∧ ItAt wr w2.heap.size s p ∧ Fr (fun j => w2.heap.size ≤ j) w2 wr ∧ iriFrom s p = iriFrom s 0)
      case atStart => exact ⟨0, by omega, ItAt.new w2 s 0, (Fr.refl _ _).alloc _, rfl⟩
      case round =>
        obtain ⟨p, hg, hit, hf, htx⟩ := hrel
        clear c0
        by_cases hp : p < s.size
        · have hnx := run_next_it hit hp
          have hwd := width_pos s p hp
          have hit2 := hit.set (p + (Utf8.decode s p).2)
          have hf2 : Fr (fun j => w2.heap.size ≤ j) w2 (World.itSet wr w2.heap.size s (p + (Utf8.decode s p).2)) := hf.trans (hit.frS _) (fun i hi e => by omega)
          rw [iriFrom_step s p hp] at htx
          have hvr := decode_valid s p
          have HIT := Lib.hid hit2
          have HF := Lib.hid hf2
          generalize World.itSet wr w2.heap.size s (p + (Utf8.decode s p).2) = w3 at *
          generalize (Utf8.decode s p).2 = wd at *
          generalize (Utf8.decode s p).1 = r at *
          have hr0 : (0 : Int) ≤ (r : Int) := by omega
          have HC := Lib.hid (fun w => class_any r w hvr)
          have HCO := Lib.hid (fun w => contains_any r w hr0 hvr)
          unfold iriSign at htx
          generalize classOf (r : Int) = c at *
          generalize forbOf (r : Int) = fb at *
          have HTX := Lib.hid htx
          clear hit hf hit2 hf2 htx hvr
          go_wp2_with fail
          refine (HC.out w3).mono ?_
          rintro e w4 ⟨rfl, rfl⟩
          by_cases h2 : c = 0
          · have h2' : (c == 0) = true := by simp [h2]
            have H2 := Lib.hid h2
            clear h2
            go_wp2_with fail
            go_ret
            exact IsB.of (HF2.out.trans' (HF.out.shut (Nat.le_refl _))) (by rw [HIG.out, ← HTX.out, H2.out]; simp)
          · have h2' : (c == 0) = false := by simp [h2]
            by_cases h3 : c = 4
            · have h3' : (c == 4) = true := by simp [h3]
              have H3 := Lib.hid h3
              clear h2 h3
              go_wp2_with fail
              go_ret
              exact IsB.of (HF2.out.trans' (HF.out.shut (Nat.le_refl _))) (by rw [HIG.out, ← HTX.out, H3.out]; simp)
            · have h3' : (c == 4) = false := by simp [h3]
              clear h2 h3
              go_wp2_with fail
              refine (HCO.out w3).mono ?_
              rintro e w4 ⟨rfl, hf4⟩
              have HF4 := Lib.hid hf4
              clear hf4
              cases fb with
              | true =>
                go_wp2_with fail
                go_ret
                exact IsB.of (HF2.out.trans' ((HF.out.trans HF4.out (fun _ _ h => h.elim)).shut (Nat.le_refl _))) (by rw [HIG.out, ← HTX.out]; simp)
              | false =>
                go_wp2_with fail
                go_roundg (s.size - (p + wd))
                case measure => omega
                case rel => exact ⟨p + wd, by omega, HIT.out.fr HF4.out (fun h => h), HF.out.trans HF4.out (fun _ _ h => h.elim), by have h := HTX.out; rw [h2', h3'] at h; simpa using h⟩
        · have hnx := run_next_it_end hit hp
          rw [iriFrom_end s p hp] at htx
          have HTX := Lib.hid htx
          clear hit htx
          go_wp2_with fail
          go_ret
          exact IsB.of (HF2.out.trans' (hf.shut (Nat.le_refl _))) (by rw [HIG.out, ← HTX.out, HH.out]; simp)

/-- May a sign stand at a place of a label? -/
def blankSign (p : Nat) (r : Int) : Bool := plainOf r || (!decide (p = 0) && (decide (r = 95) || decide (r = 45)))
def blankFrom (s : ByteArray) (p : Nat) : Bool :=
  if h : p < s.size then blankSign p ((Utf8.decode s p).1 : Int) && blankFrom s (p + (Utf8.decode s p).2) else true
termination_by s.size - p
decreasing_by have := width_pos s p h; omega
theorem blankFrom_step (s : ByteArray) (p : Nat) (h : p < s.size) : blankFrom s p = (blankSign p ((Utf8.decode s p).1 : Int) && blankFrom s (p + (Utf8.decode s p).2)) := by
  rw [blankFrom, dif_pos h]
theorem blankFrom_end (s : ByteArray) (p : Nat) (h : ¬ p < s.size) : blankFrom s p = true := by
  rw [blankFrom, dif_neg h]
def blankGood (s : ByteArray) : Bool := blankFrom s 0 && (!s.toList.isEmpty && decide (s.size ≤ 100))

set_option maxRecDepth 100000 in
set_option maxHeartbeats 4000000 in
theorem blank_any (s : ByteArray) (w : World) (hs : s.size ≤ 4096) : Calls Tryz.prog 433 #[.agg #[.string s]] w (IsB (blankGood s) w) := by
  have HBG := Lib.hid (show blankGood s = (blankFrom s 0 && (!s.toList.isEmpty && decide (s.size ≤ 100))) from rfl)
  generalize blankGood s = bg at *
  have F0 : Fr (fun _ => False) w (w.alloc (.cells #[.string s] 196)) := (Fr.refl _ _).alloc _
  have hb := Blk.new w 196 #[.string s]
  have hs' : (s.size : Int) ≤ 4096 := by omega
  go_enter Tryz.func433, Tryz.ntmps433
  go_wp2_with fail
  have hsz : w.heap.size + 1 = (w.alloc (.cells #[.string s] 196)).heap.size := by simp
  have HB := Lib.hid hb
  have HF0 := Lib.hid F0
  go_loopg [] (s.size) (fun g wr => ∃ (p : Nat), s.size ≤ p + g ∧ ItAt wr (w.heap.size + 1) s p ∧ Fr (fun j => w.heap.size + 1 ≤ j) (w.alloc (.cells #[.string s] 196)) wr ∧ blankFrom s p = blankFrom s 0)
  case atStart => exact ⟨0, by omega, by rw [hsz]; exact ItAt.new _ s 0, (Fr.refl _ _).alloc _, rfl⟩
  case round =>
    obtain ⟨p, hg, hit, hf, htx⟩ := hrel
    clear F0 hb
    have hFe := HF0.out.trans' (hf.shut (by simp))
    have HFE := Lib.hid hFe
    have hbr := HB.out.fr hf (by omega)
    have c0 : wr.cell? ⟨w.heap.size, 0, none⟩ = some (.string s) := hbr.cell 0
    by_cases hp : p < s.size
    · have hnx := run_next_it hit hp
      have hwd := width_pos s p hp
      have hit2 := hit.set (p + (Utf8.decode s p).2)
      have hf2 : Fr (fun j => w.heap.size + 1 ≤ j) (w.alloc (.cells #[.string s] 196)) (World.itSet wr (w.heap.size + 1) s (p + (Utf8.decode s p).2)) := hf.trans (hit.frS _) (fun i hi e => by omega)
      rw [blankFrom_step s p hp] at htx
      have hvr := decode_valid s p
      have HIT := Lib.hid hit2
      have HF := Lib.hid hf2
      generalize World.itSet wr (w.heap.size + 1) s (p + (Utf8.decode s p).2) = w3 at *
      generalize (Utf8.decode s p).2 = wd at *
      generalize (Utf8.decode s p).1 = r at *
      have HPL := Lib.hid (fun w => plain_any r w hvr)
      unfold blankSign at htx
      generalize plainOf (r : Int) = pl at *
      have HTX := Lib.hid htx
      clear hit hf hit2 hf2 hsz hbr c0 hFe htx hvr
      have fin : Fr (fun _ => False) w w3 := HF0.out.trans' (HF.out.shut (by simp))
      have FIN := Lib.hid fin
      clear fin
      go_wp2_with fail
      refine (HPL.out w3).mono ?_
      rintro e w4 ⟨rfl, rfl⟩
      cases pl with
      | true =>
        go_wp2_with fail
        go_roundg (s.size - (p + wd))
        case measure => omega
        case rel => exact ⟨p + wd, by omega, HIT.out, HF.out, by have h := HTX.out; simpa using h⟩
      | false =>
        by_cases h0 : p = 0
        · subst h0
          go_wp2_with fail
          go_ret
          exact IsB.of FIN.out (by rw [HBG.out, ← HTX.out]; simp)
        · have HP0 := Lib.hid h0
          have h0' : ((p : Int) == 0) = false := by simp [h0]
          by_cases h1 : (r : Int) = 95
          · have h1' : ((r : Int) != 95) = false := by simp [h1]
            have H1 := Lib.hid h1
            clear h1
            go_wp2_with fail
            go_roundg (s.size - (p + wd))
            case measure => omega
            case rel => exact ⟨p + wd, by omega, HIT.out, HF.out, by have h := HTX.out; simpa [HP0.out, H1.out] using h⟩
          · have h1' : ((r : Int) != 95) = true := by simp [h1]
            have H1 := Lib.hid h1
            clear h1
            by_cases h2 : (r : Int) = 45
            · have h2' : ((r : Int) != 45) = false := by simp [h2]
              have H2 := Lib.hid h2
              clear h2
              go_wp2_with fail
              go_roundg (s.size - (p + wd))
              case measure => omega
              case rel => exact ⟨p + wd, by omega, HIT.out, HF.out, by have h := HTX.out; simpa [HP0.out, H2.out] using h⟩
            · have h2' : ((r : Int) != 45) = true := by simp [h2]
              have H2 := Lib.hid h2
              clear h2
              go_wp2_with fail
              go_ret
              exact IsB.of FIN.out (by rw [HBG.out, ← HTX.out]; simp [H1.out, H2.out])
    · have hnx := run_next_it_end hit hp
      rw [blankFrom_end s p hp] at htx
      have HTX := Lib.hid htx
      clear hit hsz hbr htx
      by_cases he : s.toList = []
      · have he' : s.toList.isEmpty = true := by rw [he]; rfl
        have HE := Lib.hid he'
        clear he
        go_wp2_with fail
        go_ret
        exact IsB.of HFE.out (by rw [HBG.out, HE.out]; simp)
      · have he' : s.toList.isEmpty = false := by
          cases ht : s.toList with
          | nil => exact absurd ht he
          | cons a l => rfl
        have HE := Lib.hid he'
        by_cases hq : s.size ≤ 100
        · have hq1 : decide (s.size ≤ 100) = true := decide_eq_true hq
          have hq2 : decide ((s.size : Int) ≤ 100) = true := decide_eq_true (by omega)
          have hq3 : (s.size : Int) ≤ 100 := by omega
          have HQ := Lib.hid hq1
          go_wp2_with fail
          go_ret
          exact IsB.of HFE.out (by rw [HBG.out, HE.out, ← HTX.out, HQ.out]; rfl)
        · have hq1 : decide (s.size ≤ 100) = false := decide_eq_false hq
          have hq2 : decide ((s.size : Int) ≤ 100) = false := decide_eq_false (by omega)
          have hq3 : (100 : Int) < (s.size : Int) := by omega
          have HQ := Lib.hid hq1
          go_wp2_with fail
          go_ret
          exact IsB.of HFE.out (by rw [HBG.out, HE.out, ← HTX.out, HQ.out]; rfl)

end Go.Proofs.YtebddgdkndmpjaaGreatDoor
