/- Signs of a text: their classes, and whether bytes are a text: walked; of the answers it is said that there are some. -/
import Derived.Test.YtebddgdkndmpjaaGreatDoorMem
import Derived.Test.YtebddgdkndmpjaaGreatDoorSf
import Derived.Lib.QuoteLoop
import Derived.Deep.CutBlock
import Derived.Deep.RegionLawGrows
import Derived.Deep.Cut
import Derived.Deep.CutRange
import Derived.WalkKit
import Derived.WalkLawsBesides
import Derived.WalkSpells
import Derived.Deep.QuietTactic
import Derived.BigRegion
import Derived.BigQuiet
import Derived.Lib.Hide
import Derived.Outline
import Derived.Deep.AppendLies
import Derived.Deep.RegionLaw
import Derived.Deep.RegionWith
import Derived.Deep.RegionHeld3
import Derived.Deep.LoopGhost
import Derived.Deep.DeepFit
import Derived.Laws.ResultCell
import Derived.Laws.RangeAny
import Derived.Deep.MidRow
import Derived.StillTailTactics
import Derived.OpenShut
namespace Go.Proofs.YtebddgdkndmpjaaGreatDoor
set_option linter.unusedVariables false
open Go.RowKit Go

def IsB (b : Bool) (w : World) (e : Ending) (w' : World) : Prop := e = .returned (.bool b) ∧ Fr (fun _ => False) w w'
theorem IsB.mk {w w' : World} {b : Bool} (h : Fr (fun _ => False) w w') : IsB b w (.returned (.bool b)) w' := ⟨rfl, h⟩
theorem IsB.of {w w' : World} {b c : Bool} (h : Fr (fun _ => False) w w') (hc : c = b) : IsB c w (.returned (.bool b)) w' := ⟨by rw [hc], h⟩

/-- A sign's class. -/
def classOf (r : Int) : Int :=
  if r = 32 ∨ r = 9 ∨ r = 10 ∨ r = 13 then 0 else if (97 ≤ r ∧ r ≤ 122) ∨ (65 ≤ r ∧ r ≤ 90) then 1 else if 48 ≤ r ∧ r ≤ 57 then 2 else if 32 < r ∧ r ≤ 126 then 3 else if r < 160 then 4 else 5
theorem decode_valid (s : ByteArray) (p : Nat) : Lib.validRune ((Utf8.decode s p).1 : Int) = true := by
  have h := Lib.decodeN_valid (s.size - p) (s.get! p).toNat (s.get! (p + 1)).toNat (s.get! (p + 2)).toNat (s.get! (p + 3)).toNat (UInt8.toNat_lt _)
  rw [← Lib.decode_at] at h
  simp only [Lib.validRune, decide_eq_true_eq]
  omega

set_option maxRecDepth 100000 in
set_option maxHeartbeats 4000000 in
theorem class_of (r : Int) (w : World) (hv : Lib.validRune r = true) : Calls Tryz.prog 205 #[.int .i32 r] w fun e w' => e = .returned (.int .i64 (classOf r)) ∧ w = w' := by
  have HV := Tryz.utf8_ValidRune r w
  rw [hv] at HV
  obtain ⟨c, hc⟩ : ∃ c, c = classOf r := ⟨_, rfl⟩
  rw [← hc]
  have HC := Lib.hid hc
  clear hc hv
  go_enter Tryz.func205, Tryz.ntmps205
  go_wp2_with fail
  refine HV.mono ?_
  rintro e w1 ⟨rfl, rfl⟩
  go_wp2_with fail
  all_goals (go_ret; refine ⟨congrArg (fun n => Ending.returned (.int .i64 n)) ?_, rfl⟩; rw [HC.out]; unfold classOf; (try simp only [beq_iff_eq, beq_eq_false_iff_ne, ne_eq] at *); (repeat' split) <;> omega)

theorem class_any (r : Int) (w : World) (hv : Lib.validRune r = true) : Calls Tryz.prog 205 #[.int .i32 r] w fun e w' => e = .returned (.int .i64 (classOf r)) ∧ w = w' := class_of r w hv
/-- Is it a letter or a digit? -/
def plainOf (r : Int) : Bool := (classOf r == 1) || (classOf r == 2)
theorem plain_any (r : Int) (w : World) (hv : Lib.validRune r = true) : Calls Tryz.prog 421 #[.int .i32 r] w fun e w' => e = .returned (.bool (plainOf r)) ∧ w = w' := by
  have HC := Lib.hid (class_any r w hv)
  unfold plainOf
  generalize classOf r = c at *
  by_cases h : c = 1
  · have h' : (c == 1) = true := by simp [h]
    have h2 : (c == 2) = false := by simp [h]
    clear h
    rw [h', Bool.true_or]
    go_enter Tryz.func421, Tryz.ntmps421
    go_wp2_with fail
    refine HC.out.mono ?_
    rintro e w1 ⟨rfl, rfl⟩
    go_wp2_with fail
    go_ret
    exact ⟨rfl, rfl⟩
  · have h' : (c == 1) = false := by simp [h]
    clear h
    rw [h', Bool.false_or]
    go_enter Tryz.func421, Tryz.ntmps421
    go_wp2_with fail
    refine HC.out.mono ?_
    rintro e w1 ⟨rfl, rfl⟩
    go_wp2_with fail
    refine HC.out.mono ?_
    rintro e w1 ⟨rfl, rfl⟩
    go_wp2_with fail
    go_ret
    exact ⟨rfl, rfl⟩

/-- An iterator over a string, at a place. -/
def ItAt (w : World) (g : Nat) (s : ByteArray) (pos : Nat) : Prop := w.heap[g]? = some (.stringIter s pos)
def World.itSet (w : World) (g : Nat) (s : ByteArray) (pos : Nat) : World := { w with heap := w.heap.setIfInBounds g (.stringIter s pos) }
theorem ItAt.lt {w : World} {g pos : Nat} {s : ByteArray} (h : ItAt w g s pos) : g < w.heap.size := (Array.getElem?_eq_some_iff.1 h).1
theorem ItAt.set {w : World} {g pos : Nat} {s : ByteArray} (h : ItAt w g s pos) (p' : Nat) : ItAt (World.itSet w g s p') g s p' := by
  have := h.lt
  show (w.heap.setIfInBounds g _)[g]? = _
  simp [this]
theorem ItAt.frS {w : World} {g pos : Nat} {s : ByteArray} (h : ItAt w g s pos) (p' : Nat) : Fr (fun j => j = g) w (World.itSet w g s p') :=
  ⟨rfl, rfl, rfl, by simp [World.itSet], fun k hk hn => by
    show (w.heap.setIfInBounds g _)[k]? = _
    rw [Array.getElem?_setIfInBounds_ne (fun e => hn e.symm)]⟩
theorem ItAt.fr {S : Nat → Prop} {w w' : World} {g pos : Nat} {s : ByteArray} (h : ItAt w g s pos) (hf : Fr S w w') (hn : ¬ S g) : ItAt w' g s pos := (hf.block g h.lt hn).trans h
theorem ItAt.new (w : World) (s : ByteArray) (p : Nat) : ItAt (w.iter s p) w.heap.size s p := World.iter_heap w s p
theorem run_next_it {w : World} {g pos : Nat} {s : ByteArray} (h : ItAt w g s pos) (hp : pos < s.size) (ty : TypeId) :
    (Instr.next (.pointer (some ⟨g, 0, none⟩)) true ty).run Tryz.prog w = .ok (.tuple #[.bool true, .int .i64 pos, .int .i32 (Utf8.decode s pos).1]) (World.itSet w g s (pos + (Utf8.decode s pos).2)) := by
  unfold ItAt at h
  have hg : g < w.heap.size := (Array.getElem?_eq_some_iff.1 h).1
  simp [Instr.next, getObj, setObj, Sem.run_bind, Sem.run, h, Result.andThen, hp, World.itSet, goInt]
theorem run_next_it_end {w : World} {g pos : Nat} {s : ByteArray} (h : ItAt w g s pos) (hp : ¬ pos < s.size) (ty : TypeId) :
    (Instr.next (.pointer (some ⟨g, 0, none⟩)) true ty).run Tryz.prog w = .ok (.tuple #[.bool false]) w := by
  unfold ItAt at h
  simp [Instr.next, getObj, Sem.run_bind, Sem.run, h, Result.andThen, hp]
theorem width_pos (s : ByteArray) (pos : Nat) (h : pos < s.size) : 1 ≤ (Utf8.decode s pos).2 := by
  by_cases ha : (s[pos]'h).toNat < 128
  · rw [decode_ascii s pos h ha]
    exact Nat.le_refl _
  · exact (decode_high s pos h (by omega)).2

end Go.Proofs.YtebddgdkndmpjaaGreatDoor
