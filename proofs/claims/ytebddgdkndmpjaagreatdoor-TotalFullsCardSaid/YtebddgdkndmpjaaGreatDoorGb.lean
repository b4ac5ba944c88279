/- Whether bytes are a text: walked. -/
import Derived.Test.YtebddgdkndmpjaaGreatDoorGa
import Derived.Deep.CutBlock
import Derived.Deep.RegionLawGrows
import Derived.Deep.Cut
import Derived.Deep.CutRange
import Derived.WalkKit
import Derived.WalkLawsBesides
import Derived.WalkSpells
import Derived.Deep.QuietTactic
import Derived.BigRegion
import Derived.BigQuiet
import Derived.Lib.Hide
import Derived.Outline
import Derived.Deep.AppendLies
import Derived.Deep.RegionLaw
import Derived.Deep.RegionWith
import Derived.Deep.RegionHeld3
import Derived.Deep.LoopGhost
import Derived.Deep.DeepFit
import Derived.Laws.ResultCell
import Derived.Laws.RangeAny
import Derived.Deep.MidRow
import Derived.StillTailTactics
import Derived.OpenShut
namespace Go.Proofs.YtebddgdkndmpjaaGreatDoor
set_option linter.unusedVariables false
open Go.RowKit Go

theorem Fr.shut {n : Nat} {w w' : World} (h : Fr (fun j => n ≤ j) w w') (hn : w.heap.size ≤ n) : Fr (fun _ => False) w w' := ⟨h.os, h.tape, h.output, h.size, fun k hk _ => h.block k hk (by omega)⟩

/-- Is what stands at a place a sign? -/
def okS (s : ByteArray) (p r : Nat) : Bool := !decide (r = 65533) || Lib.hasPrefix (s.extract p s.size).data.toList [239, 191, 189]
/-- Are bytes, from a place on, a text? -/
def textFrom (s : ByteArray) (p : Nat) : Bool :=
  if h : p < s.size then okS s p (Utf8.decode s p).1 && textFrom s (p + (Utf8.decode s p).2) else true
termination_by s.size - p
decreasing_by have := width_pos s p h; omega
theorem textFrom_step (s : ByteArray) (p : Nat) (h : p < s.size) : textFrom s p = (okS s p (Utf8.decode s p).1 && textFrom s (p + (Utf8.decode s p).2)) := by
  rw [textFrom, dif_pos h]
theorem textFrom_end (s : ByteArray) (p : Nat) (h : ¬ p < s.size) : textFrom s p = true := by
  rw [textFrom, dif_neg h]

def WrongPost (s : ByteArray) (w : World) (e : Ending) (w' : World) : Prop := ∃ n : Int, e = .returned (.int .i64 n) ∧ decide (n < 0) = textFrom s 0 ∧ Fr (fun _ => False) w w'

set_option maxRecDepth 100000 in
set_option maxHeartbeats 4000000 in
theorem wrong_any (s : ByteArray) (w : World) (hs : s.size ≤ 4096) : Calls Tryz.prog 50 #[.string s] w (WrongPost s w) := by
  go_enter Tryz.func50, Tryz.ntmps50
  go_wp2_with fail
  go_loopg [3] (s.size) (fun g nv wr => ∃ (p : Nat) (n : Nat), nv = .int .i64 (n : Int) ∧ n ≤ p ∧ s.size ≤ p + g ∧ ItAt wr w.heap.size s p ∧ Fr (fun j => w.heap.size ≤ j) w wr ∧ textFrom s p = textFrom s 0)
  case atStart => exact ⟨0, 0, rfl, Nat.le_refl _, by omega, ItAt.new w s 0, (Fr.refl _ _).alloc _, rfl⟩
  case round =>
    obtain ⟨p, n, rfl, hn, hg, hit, hf, htx⟩ := hrel
    by_cases hp : p < s.size
    · have hnx := run_next_it hit hp
      have hwd := width_pos s p hp
      have hit2 := hit.set (p + (Utf8.decode s p).2)
      have hf2 : Fr (fun j => w.heap.size ≤ j) w (World.itSet wr w.heap.size s (p + (Utf8.decode s p).2)) := hf.trans (hit.frS _) (fun i hi e => by omega)
      have hp1 : (p : Int) ≤ (s.size : Int) := by omega
      have hs1 : (s.size : Int) ≤ 4096 := by omega
      rw [textFrom_step s p hp] at htx
      have HIT := Lib.hid hit2
      have HF := Lib.hid hf2
      generalize World.itSet wr w.heap.size s (p + (Utf8.decode s p).2) = w2 at *
      generalize (Utf8.decode s p).2 = wd at *
      generalize (Utf8.decode s p).1 = r at *
      unfold okS at htx
      have HTX := Lib.hid htx
      clear hit hf hit2 hf2 htx
      by_cases hr : (r : Int) = 65533
      · have hr' : ((r : Int) == 65533) = true := by simp [hr]
        have HR := Lib.hid (show decide (r = 65533) = true from decide_eq_true (by omega))
        clear hr
        go_wp2_with fail
        refine (Tryz.strings_HasPrefix _ _ _).mono ?_
        rintro e w3 ⟨rfl, rfl⟩
        generalize hb : Lib.hasPrefix _ _ = b
        have HB := Lib.hid hb
        clear hb
        cases b with
        | true =>
          go_wp2_with fail
          go_roundg (s.size - (p + wd))
          case measure => omega
          case rel => exact ⟨p + wd, n + 1, by go_num, by omega, by omega, HIT.out, HF.out, by have h1 := HTX.out; have h2 := HB.out; rw [h2, HR.out] at h1; simpa using h1⟩
        | false =>
          go_wp2_with fail
          go_ret
          exact ⟨_, rfl, by have h1 := HTX.out; have h2 := HB.out; rw [h2, HR.out] at h1; rw [← h1]; simp, HF.out.shut (Nat.le_refl _)⟩
      · have hr' : ((r : Int) == 65533) = false := by simp [hr]
        have HR := Lib.hid (show decide (r = 65533) = false from decide_eq_false (by omega))
        clear hr
        go_wp2_with fail
        go_roundg (s.size - (p + wd))
        case measure => omega
        case rel => exact ⟨p + wd, n + 1, by go_num, by omega, by omega, HIT.out, HF.out, by have h1 := HTX.out; rw [HR.out] at h1; simpa using h1⟩
    · have hnx := run_next_it_end hit hp
      rw [textFrom_end s p hp] at htx
      have HTX := Lib.hid htx
      clear hit htx
      go_wp2_with fail
      go_ret
      exact ⟨_, rfl, by rw [← HTX.out]; rfl, hf.shut (Nat.le_refl _)⟩

theorem good_any (s : ByteArray) (w : World) (hs : s.size ≤ 4096) : Calls Tryz.prog 415 #[.string s] w (IsB (textFrom s 0) w) := by
  go_enter Tryz.func415, Tryz.ntmps415
  go_wp2_with fail
  refine (wrong_any s w hs).mono ?_
  rintro e w1 ⟨n, rfl, hd, hf⟩
  have HD := Lib.hid hd
  clear hd
  go_wp2_with fail
  go_ret
  exact IsB.of hf HD.out.symm

end Go.Proofs.YtebddgdkndmpjaaGreatDoor
