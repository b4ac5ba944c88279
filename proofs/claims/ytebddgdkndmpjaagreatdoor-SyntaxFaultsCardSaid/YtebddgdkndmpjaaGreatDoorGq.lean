/- The reference's signs, first signs: walked. -/
import Derived.Test.YtebddgdkndmpjaaGreatDoorGo
import Derived.Deep.CutBlock
import Derived.Deep.RegionLawGrows
import Derived.Deep.Cut
import Derived.Deep.CutRange
import Derived.WalkKit
import Derived.WalkLawsBesides
import Derived.WalkSpells
import Derived.Deep.QuietTactic
import Derived.BigRegion
import Derived.BigQuiet
import Derived.Lib.Hide
import Derived.Outline
import Derived.Deep.AppendLies
import Derived.Deep.RegionLaw
import Derived.Deep.RegionWith
import Derived.Deep.RegionHeld3
import Derived.Deep.LoopGhost
import Derived.Deep.DeepFit
import Derived.Laws.ResultCell
import Derived.Laws.RangeAny
import Derived.Deep.MidRow
import Derived.StillTailTactics
import Derived.OpenShut
namespace Go.Proofs.YtebddgdkndmpjaaGreatDoor
set_option linter.unusedVariables false
open Go.RowKit Go

def rSign (x : Int) : Bool := decide (0 ≤ x ∧ x ≤ 1114111 ∧ (x < 55296 ∨ 57343 < x))
def rBytesLen (x : Int) : Nat := if x < 128 then 1 else if x < 2048 then 2 else if x < 65536 then 3 else 4
def rClass (x : Int) : Int :=
  if rSign x = false then 6 else if x = 32 ∨ x = 9 ∨ x = 10 ∨ x = 13 then 0
  else if (97 ≤ x ∧ x ≤ 122) ∨ (65 ≤ x ∧ x ≤ 90) then 1 else if 48 ≤ x ∧ x ≤ 57 then 2
  else if 33 ≤ x ∧ x ≤ 126 then 3 else if x < 160 then 4 else 5

set_option maxRecDepth 100000 in
set_option maxHeartbeats 4000000 in
theorem rsign_any (x : Int) (w : World) : Calls Tryz.prog 101 #[.int .i64 x] w fun e w' => e = .returned (.bool (rSign x)) ∧ w = w' := by
  rcases (show x ≤ -1 ∨ (0 ≤ x ∧ x ≤ 55295) ∨ (55296 ≤ x ∧ x ≤ 57343) ∨ (57344 ≤ x ∧ x ≤ 1114111) ∨ 1114112 ≤ x by omega) with hI | hI | hI | hI | hI
  · have e0ge : decide (0 ≤ x) = false := decide_eq_false (by omega)
    have e1114111le : decide (x ≤ 1114111) = true := decide_eq_true (by omega)
    have e55296lt : decide (x < 55296) = true := decide_eq_true (by omega)
    have e57343gt : decide (57343 < x) = false := decide_eq_false (by omega)
    have HL := Lib.hid (show rSign x = false from decide_eq_false (by omega))
    clear hI
    go_enter Tryz.func101, Tryz.ntmps101
    go_wp2_with fail
    go_ret
    exact ⟨by rw [HL.out]; rfl, rfl⟩
  · have e0ge : decide (0 ≤ x) = true := decide_eq_true (by omega)
    have e1114111le : decide (x ≤ 1114111) = true := decide_eq_true (by omega)
    have e55296lt : decide (x < 55296) = true := decide_eq_true (by omega)
    have e57343gt : decide (57343 < x) = false := decide_eq_false (by omega)
    have HL := Lib.hid (show rSign x = true from decide_eq_true (by omega))
    clear hI
    go_enter Tryz.func101, Tryz.ntmps101
    go_wp2_with fail
    go_ret
    exact ⟨by rw [HL.out]; rfl, rfl⟩
  · have e0ge : decide (0 ≤ x) = true := decide_eq_true (by omega)
    have e1114111le : decide (x ≤ 1114111) = true := decide_eq_true (by omega)
    have e55296lt : decide (x < 55296) = false := decide_eq_false (by omega)
    have e57343gt : decide (57343 < x) = false := decide_eq_false (by omega)
    have HL := Lib.hid (show rSign x = false from decide_eq_false (by omega))
    clear hI
    go_enter Tryz.func101, Tryz.ntmps101
    go_wp2_with fail
    go_ret
    exact ⟨by rw [HL.out]; rfl, rfl⟩
  · have e0ge : decide (0 ≤ x) = true := decide_eq_true (by omega)
    have e1114111le : decide (x ≤ 1114111) = true := decide_eq_true (by omega)
    have e55296lt : decide (x < 55296) = false := decide_eq_false (by omega)
    have e57343gt : decide (57343 < x) = true := decide_eq_true (by omega)
    have HL := Lib.hid (show rSign x = true from decide_eq_true (by omega))
    clear hI
    go_enter Tryz.func101, Tryz.ntmps101
    go_wp2_with fail
    go_ret
    exact ⟨by rw [HL.out]; rfl, rfl⟩
  · have e0ge : decide (0 ≤ x) = true := decide_eq_true (by omega)
    have e1114111le : decide (x ≤ 1114111) = false := decide_eq_false (by omega)
    have e55296lt : decide (x < 55296) = false := decide_eq_false (by omega)
    have e57343gt : decide (57343 < x) = true := decide_eq_true (by omega)
    have HL := Lib.hid (show rSign x = false from decide_eq_false (by omega))
    clear hI
    go_enter Tryz.func101, Tryz.ntmps101
    go_wp2_with fail
    go_ret
    exact ⟨by rw [HL.out]; rfl, rfl⟩
set_option maxRecDepth 100000 in
set_option maxHeartbeats 4000000 in
theorem rbytes_any (x : Int) (w : World) : Calls Tryz.prog 102 #[.int .i64 x] w fun e w' => ∃ A c, e = .returned (.slice A (rBytesLen x) c) ∧ Fr (fun _ => False) w w' := by
  rcases (show x ≤ 127 ∨ (128 ≤ x ∧ x ≤ 2047) ∨ (2048 ≤ x ∧ x ≤ 65535) ∨ 65536 ≤ x by omega) with hI | hI | hI | hI
  · have e128lt : decide (x < 128) = true := decide_eq_true (by omega)
    have e2048lt : decide (x < 2048) = true := decide_eq_true (by omega)
    have e65536lt : decide (x < 65536) = true := decide_eq_true (by omega)
    have HL := Lib.hid (show rBytesLen x = 1 by unfold rBytesLen; split <;> (try omega) <;> (try split) <;> (try omega) <;> (try split) <;> omega)
    clear hI
    go_enter Tryz.func102, Tryz.ntmps102
    go_wp2_with fail
    go_ret
    exact ⟨_, _, by rw [HL.out]; rfl, (Fr.refl _ _).alloc _⟩
  · have e128lt : decide (x < 128) = false := decide_eq_false (by omega)
    have e2048lt : decide (x < 2048) = true := decide_eq_true (by omega)
    have e65536lt : decide (x < 65536) = true := decide_eq_true (by omega)
    have HL := Lib.hid (show rBytesLen x = 2 by unfold rBytesLen; split <;> (try omega) <;> (try split) <;> (try omega) <;> (try split) <;> omega)
    clear hI
    go_enter Tryz.func102, Tryz.ntmps102
    go_wp2_with fail
    go_ret
    exact ⟨_, _, by rw [HL.out]; rfl, (Fr.refl _ _).alloc _⟩
  · have e128lt : decide (x < 128) = false := decide_eq_false (by omega)
    have e2048lt : decide (x < 2048) = false := decide_eq_false (by omega)
    have e65536lt : decide (x < 65536) = true := decide_eq_true (by omega)
    have HL := Lib.hid (show rBytesLen x = 3 by unfold rBytesLen; split <;> (try omega) <;> (try split) <;> (try omega) <;> (try split) <;> omega)
    clear hI
    go_enter Tryz.func102, Tryz.ntmps102
    go_wp2_with fail
    go_ret
    exact ⟨_, _, by rw [HL.out]; rfl, (Fr.refl _ _).alloc _⟩
  · have e128lt : decide (x < 128) = false := decide_eq_false (by omega)
    have e2048lt : decide (x < 2048) = false := decide_eq_false (by omega)
    have e65536lt : decide (x < 65536) = false := decide_eq_false (by omega)
    have HL := Lib.hid (show rBytesLen x = 4 by unfold rBytesLen; split <;> (try omega) <;> (try split) <;> (try omega) <;> (try split) <;> omega)
    clear hI
    go_enter Tryz.func102, Tryz.ntmps102
    go_wp2_with fail
    go_ret
    exact ⟨_, _, by rw [HL.out]; rfl, (Fr.refl _ _).alloc _⟩
set_option maxRecDepth 100000 in
set_option maxHeartbeats 4000000 in
theorem rclass_any (x : Int) (w : World) : Calls Tryz.prog 104 #[.int .i64 x] w fun e w' => e = .returned (.int .i64 (rClass x)) ∧ w = w' := by
  rcases (show x ≤ -1 ∨ (0 ≤ x ∧ x ≤ 8) ∨ (9 ≤ x ∧ x ≤ 9) ∨ (10 ≤ x ∧ x ≤ 10) ∨ (11 ≤ x ∧ x ≤ 12) ∨ (13 ≤ x ∧ x ≤ 13) ∨ (14 ≤ x ∧ x ≤ 31) ∨ (32 ≤ x ∧ x ≤ 32) ∨ (33 ≤ x ∧ x ≤ 47) ∨ (48 ≤ x ∧ x ≤ 57) ∨ (58 ≤ x ∧ x ≤ 64) ∨ (65 ≤ x ∧ x ≤ 90) ∨ (91 ≤ x ∧ x ≤ 96) ∨ (97 ≤ x ∧ x ≤ 122) ∨ (123 ≤ x ∧ x ≤ 126) ∨ (127 ≤ x ∧ x ≤ 159) ∨ (160 ≤ x ∧ x ≤ 55295) ∨ (55296 ≤ x ∧ x ≤ 57343) ∨ (57344 ≤ x ∧ x ≤ 1114111) ∨ 1114112 ≤ x by omega) with hI | hI | hI | hI | hI | hI | hI | hI | hI | hI | hI | hI | hI | hI | hI | hI | hI | hI | hI | hI
  · have e32eq : (x == 32) = false := by simp; omega
    have e9eq : (x == 9) = false := by simp; omega
    have e10eq : (x == 10) = false := by simp; omega
    have e13eq : (x == 13) = false := by simp; omega
    have e97ge : decide (97 ≤ x) = false := decide_eq_false (by omega)
    have e122le : decide (x ≤ 122) = true := decide_eq_true (by omega)
    have e65ge : decide (65 ≤ x) = false := decide_eq_false (by omega)
    have e90le : decide (x ≤ 90) = true := decide_eq_true (by omega)
    have e48ge : decide (48 ≤ x) = false := decide_eq_false (by omega)
    have e57le : decide (x ≤ 57) = true := decide_eq_true (by omega)
    have e33ge : decide (33 ≤ x) = false := decide_eq_false (by omega)
    have e126le : decide (x ≤ 126) = true := decide_eq_true (by omega)
    have e160lt : decide (x < 160) = true := decide_eq_true (by omega)
    have hsg : rSign x = false := decide_eq_false (by omega)
    have HL := Lib.hid (show rClass x = 6 by unfold rClass; rw [hsg]; rfl)
    have HS := Lib.hid (rsign_any x w)
    rw [hsg] at HS
    clear hI hsg
    go_enter Tryz.func104, Tryz.ntmps104
    go_wp2_with fail
    refine HS.out.mono ?_
    rintro e w1 ⟨rfl, rfl⟩
    go_wp2_with fail
    go_ret
    exact ⟨by rw [HL.out]; rfl, rfl⟩
  · have e32eq : (x == 32) = false := by simp; omega
    have e9eq : (x == 9) = false := by simp; omega
    have e10eq : (x == 10) = false := by simp; omega
    have e13eq : (x == 13) = false := by simp; omega
    have e97ge : decide (97 ≤ x) = false := decide_eq_false (by omega)
    have e122le : decide (x ≤ 122) = true := decide_eq_true (by omega)
    have e65ge : decide (65 ≤ x) = false := decide_eq_false (by omega)
    have e90le : decide (x ≤ 90) = true := decide_eq_true (by omega)
    have e48ge : decide (48 ≤ x) = false := decide_eq_false (by omega)
    have e57le : decide (x ≤ 57) = true := decide_eq_true (by omega)
    have e33ge : decide (33 ≤ x) = false := decide_eq_false (by omega)
    have e126le : decide (x ≤ 126) = true := decide_eq_true (by omega)
    have e160lt : decide (x < 160) = true := decide_eq_true (by omega)
    have hsg : rSign x = true := decide_eq_true (by omega)
    have HL := Lib.hid (show rClass x = 4 by unfold rClass; rw [hsg]; repeat (first | omega | rw [if_neg (by first | decide | omega)] | rw [if_pos (by omega)]))
    have HS := Lib.hid (rsign_any x w)
    rw [hsg] at HS
    clear hI hsg
    go_enter Tryz.func104, Tryz.ntmps104
    go_wp2_with fail
    refine HS.out.mono ?_
    rintro e w1 ⟨rfl, rfl⟩
    go_wp2_with fail
    go_ret
    exact ⟨by rw [HL.out]; rfl, rfl⟩
  · have e32eq : (x == 32) = false := by simp; omega
    have e9eq : (x == 9) = true := by simp; omega
    have e10eq : (x == 10) = false := by simp; omega
    have e13eq : (x == 13) = false := by simp; omega
    have e97ge : decide (97 ≤ x) = false := decide_eq_false (by omega)
    have e122le : decide (x ≤ 122) = true := decide_eq_true (by omega)
    have e65ge : decide (65 ≤ x) = false := decide_eq_false (by omega)
    have e90le : decide (x ≤ 90) = true := decide_eq_true (by omega)
    have e48ge : decide (48 ≤ x) = false := decide_eq_false (by omega)
    have e57le : decide (x ≤ 57) = true := decide_eq_true (by omega)
    have e33ge : decide (33 ≤ x) = false := decide_eq_false (by omega)
    have e126le : decide (x ≤ 126) = true := decide_eq_true (by omega)
    have e160lt : decide (x < 160) = true := decide_eq_true (by omega)
    have hsg : rSign x = true := decide_eq_true (by omega)
    have HL := Lib.hid (show rClass x = 0 by unfold rClass; rw [hsg]; repeat (first | omega | rw [if_neg (by first | decide | omega)] | rw [if_pos (by omega)]))
    have HS := Lib.hid (rsign_any x w)
    rw [hsg] at HS
    clear hI hsg
    go_enter Tryz.func104, Tryz.ntmps104
    go_wp2_with fail
    refine HS.out.mono ?_
    rintro e w1 ⟨rfl, rfl⟩
    go_wp2_with fail
    go_ret
    exact ⟨by rw [HL.out]; rfl, rfl⟩
  · have e32eq : (x == 32) = false := by simp; omega
    have e9eq : (x == 9) = false := by simp; omega
    have e10eq : (x == 10) = true := by simp; omega
    have e13eq : (x == 13) = false := by simp; omega
    have e97ge : decide (97 ≤ x) = false := decide_eq_false (by omega)
    have e122le : decide (x ≤ 122) = true := decide_eq_true (by omega)
    have e65ge : decide (65 ≤ x) = false := decide_eq_false (by omega)
    have e90le : decide (x ≤ 90) = true := decide_eq_true (by omega)
    have e48ge : decide (48 ≤ x) = false := decide_eq_false (by omega)
    have e57le : decide (x ≤ 57) = true := decide_eq_true (by omega)
    have e33ge : decide (33 ≤ x) = false := decide_eq_false (by omega)
    have e126le : decide (x ≤ 126) = true := decide_eq_true (by omega)
    have e160lt : decide (x < 160) = true := decide_eq_true (by omega)
    have hsg : rSign x = true := decide_eq_true (by omega)
    have HL := Lib.hid (show rClass x = 0 by unfold rClass; rw [hsg]; repeat (first | omega | rw [if_neg (by first | decide | omega)] | rw [if_pos (by omega)]))
    have HS := Lib.hid (rsign_any x w)
    rw [hsg] at HS
    clear hI hsg
    go_enter Tryz.func104, Tryz.ntmps104
    go_wp2_with fail
    refine HS.out.mono ?_
    rintro e w1 ⟨rfl, rfl⟩
    go_wp2_with fail
    go_ret
    exact ⟨by rw [HL.out]; rfl, rfl⟩
  · have e32eq : (x == 32) = false := by simp; omega
    have e9eq : (x == 9) = false := by simp; omega
    have e10eq : (x == 10) = false := by simp; omega
    have e13eq : (x == 13) = false := by simp; omega
    have e97ge : decide (97 ≤ x) = false := decide_eq_false (by omega)
    have e122le : decide (x ≤ 122) = true := decide_eq_true (by omega)
    have e65ge : decide (65 ≤ x) = false := decide_eq_false (by omega)
    have e90le : decide (x ≤ 90) = true := decide_eq_true (by omega)
    have e48ge : decide (48 ≤ x) = false := decide_eq_false (by omega)
    have e57le : decide (x ≤ 57) = true := decide_eq_true (by omega)
    have e33ge : decide (33 ≤ x) = false := decide_eq_false (by omega)
    have e126le : decide (x ≤ 126) = true := decide_eq_true (by omega)
    have e160lt : decide (x < 160) = true := decide_eq_true (by omega)
    have hsg : rSign x = true := decide_eq_true (by omega)
    have HL := Lib.hid (show rClass x = 4 by unfold rClass; rw [hsg]; repeat (first | omega | rw [if_neg (by first | decide | omega)] | rw [if_pos (by omega)]))
    have HS := Lib.hid (rsign_any x w)
    rw [hsg] at HS
    clear hI hsg
    go_enter Tryz.func104, Tryz.ntmps104
    go_wp2_with fail
    refine HS.out.mono ?_
    rintro e w1 ⟨rfl, rfl⟩
    go_wp2_with fail
    go_ret
    exact ⟨by rw [HL.out]; rfl, rfl⟩
  · have e32eq : (x == 32) = false := by simp; omega
    have e9eq : (x == 9) = false := by simp; omega
    have e10eq : (x == 10) = false := by simp; omega
    have e13eq : (x == 13) = true := by simp; omega
    have e97ge : decide (97 ≤ x) = false := decide_eq_false (by omega)
    have e122le : decide (x ≤ 122) = true := decide_eq_true (by omega)
    have e65ge : decide (65 ≤ x) = false := decide_eq_false (by omega)
    have e90le : decide (x ≤ 90) = true := decide_eq_true (by omega)
    have e48ge : decide (48 ≤ x) = false := decide_eq_false (by omega)
    have e57le : decide (x ≤ 57) = true := decide_eq_true (by omega)
    have e33ge : decide (33 ≤ x) = false := decide_eq_false (by omega)
    have e126le : decide (x ≤ 126) = true := decide_eq_true (by omega)
    have e160lt : decide (x < 160) = true := decide_eq_true (by omega)
    have hsg : rSign x = true := decide_eq_true (by omega)
    have HL := Lib.hid (show rClass x = 0 by unfold rClass; rw [hsg]; repeat (first | omega | rw [if_neg (by first | decide | omega)] | rw [if_pos (by omega)]))
    have HS := Lib.hid (rsign_any x w)
    rw [hsg] at HS
    clear hI hsg
    go_enter Tryz.func104, Tryz.ntmps104
    go_wp2_with fail
    refine HS.out.mono ?_
    rintro e w1 ⟨rfl, rfl⟩
    go_wp2_with fail
    go_ret
    exact ⟨by rw [HL.out]; rfl, rfl⟩
  · have e32eq : (x == 32) = false := by simp; omega
    have e9eq : (x == 9) = false := by simp; omega
    have e10eq : (x == 10) = false := by simp; omega
    have e13eq : (x == 13) = false := by simp; omega
    have e97ge : decide (97 ≤ x) = false := decide_eq_false (by omega)
    have e122le : decide (x ≤ 122) = true := decide_eq_true (by omega)
    have e65ge : decide (65 ≤ x) = false := decide_eq_false (by omega)
    have e90le : decide (x ≤ 90) = true := decide_eq_true (by omega)
    have e48ge : decide (48 ≤ x) = false := decide_eq_false (by omega)
    have e57le : decide (x ≤ 57) = true := decide_eq_true (by omega)
    have e33ge : decide (33 ≤ x) = false := decide_eq_false (by omega)
    have e126le : decide (x ≤ 126) = true := decide_eq_true (by omega)
    have e160lt : decide (x < 160) = true := decide_eq_true (by omega)
    have hsg : rSign x = true := decide_eq_true (by omega)
    have HL := Lib.hid (show rClass x = 4 by unfold rClass; rw [hsg]; repeat (first | omega | rw [if_neg (by first | decide | omega)] | rw [if_pos (by omega)]))
    have HS := Lib.hid (rsign_any x w)
    rw [hsg] at HS
    clear hI hsg
    go_enter Tryz.func104, Tryz.ntmps104
    go_wp2_with fail
    refine HS.out.mono ?_
    rintro e w1 ⟨rfl, rfl⟩
    go_wp2_with fail
    go_ret
    exact ⟨by rw [HL.out]; rfl, rfl⟩
  · have e32eq : (x == 32) = true := by simp; omega
    have e9eq : (x == 9) = false := by simp; omega
    have e10eq : (x == 10) = false := by simp; omega
    have e13eq : (x == 13) = false := by simp; omega
    have e97ge : decide (97 ≤ x) = false := decide_eq_false (by omega)
    have e122le : decide (x ≤ 122) = true := decide_eq_true (by omega)
    have e65ge : decide (65 ≤ x) = false := decide_eq_false (by omega)
    have e90le : decide (x ≤ 90) = true := decide_eq_true (by omega)
    have e48ge : decide (48 ≤ x) = false := decide_eq_false (by omega)
    have e57le : decide (x ≤ 57) = true := decide_eq_true (by omega)
    have e33ge : decide (33 ≤ x) = false := decide_eq_false (by omega)
    have e126le : decide (x ≤ 126) = true := decide_eq_true (by omega)
    have e160lt : decide (x < 160) = true := decide_eq_true (by omega)
    have hsg : rSign x = true := decide_eq_true (by omega)
    have HL := Lib.hid (show rClass x = 0 by unfold rClass; rw [hsg]; repeat (first | omega | rw [if_neg (by first | decide | omega)] | rw [if_pos (by omega)]))
    have HS := Lib.hid (rsign_any x w)
    rw [hsg] at HS
    clear hI hsg
    go_enter Tryz.func104, Tryz.ntmps104
    go_wp2_with fail
    refine HS.out.mono ?_
    rintro e w1 ⟨rfl, rfl⟩
    go_wp2_with fail
    go_ret
    exact ⟨by rw [HL.out]; rfl, rfl⟩
  · have e32eq : (x == 32) = false := by simp; omega
    have e9eq : (x == 9) = false := by simp; omega
    have e10eq : (x == 10) = false := by simp; omega
    have e13eq : (x == 13) = false := by simp; omega
    have e97ge : decide (97 ≤ x) = false := decide_eq_false (by omega)
    have e122le : decide (x ≤ 122) = true := decide_eq_true (by omega)
    have e65ge : decide (65 ≤ x) = false := decide_eq_false (by omega)
    have e90le : decide (x ≤ 90) = true := decide_eq_true (by omega)
    have e48ge : decide (48 ≤ x) = false := decide_eq_false (by omega)
    have e57le : decide (x ≤ 57) = true := decide_eq_true (by omega)
    have e33ge : decide (33 ≤ x) = true := decide_eq_true (by omega)
    have e126le : decide (x ≤ 126) = true := decide_eq_true (by omega)
    have e160lt : decide (x < 160) = true := decide_eq_true (by omega)
    have hsg : rSign x = true := decide_eq_true (by omega)
    have HL := Lib.hid (show rClass x = 3 by unfold rClass; rw [hsg]; repeat (first | omega | rw [if_neg (by first | decide | omega)] | rw [if_pos (by omega)]))
    have HS := Lib.hid (rsign_any x w)
    rw [hsg] at HS
    clear hI hsg
    go_enter Tryz.func104, Tryz.ntmps104
    go_wp2_with fail
    refine HS.out.mono ?_
    rintro e w1 ⟨rfl, rfl⟩
    go_wp2_with fail
    go_ret
    exact ⟨by rw [HL.out]; rfl, rfl⟩
  · have e32eq : (x == 32) = false := by simp; omega
    have e9eq : (x == 9) = false := by simp; omega
    have e10eq : (x == 10) = false := by simp; omega
    have e13eq : (x == 13) = false := by simp; omega
    have e97ge : decide (97 ≤ x) = false := decide_eq_false (by omega)
    have e122le : decide (x ≤ 122) = true := decide_eq_true (by omega)
    have e65ge : decide (65 ≤ x) = false := decide_eq_false (by omega)
    have e90le : decide (x ≤ 90) = true := decide_eq_true (by omega)
    have e48ge : decide (48 ≤ x) = true := decide_eq_true (by omega)
    have e57le : decide (x ≤ 57) = true := decide_eq_true (by omega)
    have e33ge : decide (33 ≤ x) = true := decide_eq_true (by omega)
    have e126le : decide (x ≤ 126) = true := decide_eq_true (by omega)
    have e160lt : decide (x < 160) = true := decide_eq_true (by omega)
    have hsg : rSign x = true := decide_eq_true (by omega)
    have HL := Lib.hid (show rClass x = 2 by unfold rClass; rw [hsg]; repeat (first | omega | rw [if_neg (by first | decide | omega)] | rw [if_pos (by omega)]))
    have HS := Lib.hid (rsign_any x w)
    rw [hsg] at HS
    clear hI hsg
    go_enter Tryz.func104, Tryz.ntmps104
    go_wp2_with fail
    refine HS.out.mono ?_
    rintro e w1 ⟨rfl, rfl⟩
    go_wp2_with fail
    go_ret
    exact ⟨by rw [HL.out]; rfl, rfl⟩
  · have e32eq : (x == 32) = false := by simp; omega
    have e9eq : (x == 9) = false := by simp; omega
    have e10eq : (x == 10) = false := by simp; omega
    have e13eq : (x == 13) = false := by simp; omega
    have e97ge : decide (97 ≤ x) = false := decide_eq_false (by omega)
    have e122le : decide (x ≤ 122) = true := decide_eq_true (by omega)
    have e65ge : decide (65 ≤ x) = false := decide_eq_false (by omega)
    have e90le : decide (x ≤ 90) = true := decide_eq_true (by omega)
    have e48ge : decide (48 ≤ x) = true := decide_eq_true (by omega)
    have e57le : decide (x ≤ 57) = false := decide_eq_false (by omega)
    have e33ge : decide (33 ≤ x) = true := decide_eq_true (by omega)
    have e126le : decide (x ≤ 126) = true := decide_eq_true (by omega)
    have e160lt : decide (x < 160) = true := decide_eq_true (by omega)
    have hsg : rSign x = true := decide_eq_true (by omega)
    have HL := Lib.hid (show rClass x = 3 by unfold rClass; rw [hsg]; repeat (first | omega | rw [if_neg (by first | decide | omega)] | rw [if_pos (by omega)]))
    have HS := Lib.hid (rsign_any x w)
    rw [hsg] at HS
    clear hI hsg
    go_enter Tryz.func104, Tryz.ntmps104
    go_wp2_with fail
    refine HS.out.mono ?_
    rintro e w1 ⟨rfl, rfl⟩
    go_wp2_with fail
    go_ret
    exact ⟨by rw [HL.out]; rfl, rfl⟩
  · have e32eq : (x == 32) = false := by simp; omega
    have e9eq : (x == 9) = false := by simp; omega
    have e10eq : (x == 10) = false := by simp; omega
    have e13eq : (x == 13) = false := by simp; omega
    have e97ge : decide (97 ≤ x) = false := decide_eq_false (by omega)
    have e122le : decide (x ≤ 122) = true := decide_eq_true (by omega)
    have e65ge : decide (65 ≤ x) = true := decide_eq_true (by omega)
    have e90le : decide (x ≤ 90) = true := decide_eq_true (by omega)
    have e48ge : decide (48 ≤ x) = true := decide_eq_true (by omega)
    have e57le : decide (x ≤ 57) = false := decide_eq_false (by omega)
    have e33ge : decide (33 ≤ x) = true := decide_eq_true (by omega)
    have e126le : decide (x ≤ 126) = true := decide_eq_true (by omega)
    have e160lt : decide (x < 160) = true := decide_eq_true (by omega)
    have hsg : rSign x = true := decide_eq_true (by omega)
    have HL := Lib.hid (show rClass x = 1 by unfold rClass; rw [hsg]; repeat (first | omega | rw [if_neg (by first | decide | omega)] | rw [if_pos (by omega)]))
    have HS := Lib.hid (rsign_any x w)
    rw [hsg] at HS
    clear hI hsg
    go_enter Tryz.func104, Tryz.ntmps104
    go_wp2_with fail
    refine HS.out.mono ?_
    rintro e w1 ⟨rfl, rfl⟩
    go_wp2_with fail
    go_ret
    exact ⟨by rw [HL.out]; rfl, rfl⟩
  · have e32eq : (x == 32) = false := by simp; omega
    have e9eq : (x == 9) = false := by simp; omega
    have e10eq : (x == 10) = false := by simp; omega
    have e13eq : (x == 13) = false := by simp; omega
    have e97ge : decide (97 ≤ x) = false := decide_eq_false (by omega)
    have e122le : decide (x ≤ 122) = true := decide_eq_true (by omega)
    have e65ge : decide (65 ≤ x) = true := decide_eq_true (by omega)
    have e90le : decide (x ≤ 90) = false := decide_eq_false (by omega)
    have e48ge : decide (48 ≤ x) = true := decide_eq_true (by omega)
    have e57le : decide (x ≤ 57) = false := decide_eq_false (by omega)
    have e33ge : decide (33 ≤ x) = true := decide_eq_true (by omega)
    have e126le : decide (x ≤ 126) = true := decide_eq_true (by omega)
    have e160lt : decide (x < 160) = true := decide_eq_true (by omega)
    have hsg : rSign x = true := decide_eq_true (by omega)
    have HL := Lib.hid (show rClass x = 3 by unfold rClass; rw [hsg]; repeat (first | omega | rw [if_neg (by first | decide | omega)] | rw [if_pos (by omega)]))
    have HS := Lib.hid (rsign_any x w)
    rw [hsg] at HS
    clear hI hsg
    go_enter Tryz.func104, Tryz.ntmps104
    go_wp2_with fail
    refine HS.out.mono ?_
    rintro e w1 ⟨rfl, rfl⟩
    go_wp2_with fail
    go_ret
    exact ⟨by rw [HL.out]; rfl, rfl⟩
  · have e32eq : (x == 32) = false := by simp; omega
    have e9eq : (x == 9) = false := by simp; omega
    have e10eq : (x == 10) = false := by simp; omega
    have e13eq : (x == 13) = false := by simp; omega
    have e97ge : decide (97 ≤ x) = true := decide_eq_true (by omega)
    have e122le : decide (x ≤ 122) = true := decide_eq_true (by omega)
    have e65ge : decide (65 ≤ x) = true := decide_eq_true (by omega)
    have e90le : decide (x ≤ 90) = false := decide_eq_false (by omega)
    have e48ge : decide (48 ≤ x) = true := decide_eq_true (by omega)
    have e57le : decide (x ≤ 57) = false := decide_eq_false (by omega)
    have e33ge : decide (33 ≤ x) = true := decide_eq_true (by omega)
    have e126le : decide (x ≤ 126) = true := decide_eq_true (by omega)
    have e160lt : decide (x < 160) = true := decide_eq_true (by omega)
    have hsg : rSign x = true := decide_eq_true (by omega)
    have HL := Lib.hid (show rClass x = 1 by unfold rClass; rw [hsg]; repeat (first | omega | rw [if_neg (by first | decide | omega)] | rw [if_pos (by omega)]))
    have HS := Lib.hid (rsign_any x w)
    rw [hsg] at HS
    clear hI hsg
    go_enter Tryz.func104, Tryz.ntmps104
    go_wp2_with fail
    refine HS.out.mono ?_
    rintro e w1 ⟨rfl, rfl⟩
    go_wp2_with fail
    go_ret
    exact ⟨by rw [HL.out]; rfl, rfl⟩
  · have e32eq : (x == 32) = false := by simp; omega
    have e9eq : (x == 9) = false := by simp; omega
    have e10eq : (x == 10) = false := by simp; omega
    have e13eq : (x == 13) = false := by simp; omega
    have e97ge : decide (97 ≤ x) = true := decide_eq_true (by omega)
    have e122le : decide (x ≤ 122) = false := decide_eq_false (by omega)
    have e65ge : decide (65 ≤ x) = true := decide_eq_true (by omega)
    have e90le : decide (x ≤ 90) = false := decide_eq_false (by omega)
    have e48ge : decide (48 ≤ x) = true := decide_eq_true (by omega)
    have e57le : decide (x ≤ 57) = false := decide_eq_false (by omega)
    have e33ge : decide (33 ≤ x) = true := decide_eq_true (by omega)
    have e126le : decide (x ≤ 126) = true := decide_eq_true (by omega)
    have e160lt : decide (x < 160) = true := decide_eq_true (by omega)
    have hsg : rSign x = true := decide_eq_true (by omega)
    have HL := Lib.hid (show rClass x = 3 by unfold rClass; rw [hsg]; repeat (first | omega | rw [if_neg (by first | decide | omega)] | rw [if_pos (by omega)]))
    have HS := Lib.hid (rsign_any x w)
    rw [hsg] at HS
    clear hI hsg
    go_enter Tryz.func104, Tryz.ntmps104
    go_wp2_with fail
    refine HS.out.mono ?_
    rintro e w1 ⟨rfl, rfl⟩
    go_wp2_with fail
    go_ret
    exact ⟨by rw [HL.out]; rfl, rfl⟩
  · have e32eq : (x == 32) = false := by simp; omega
    have e9eq : (x == 9) = false := by simp; omega
    have e10eq : (x == 10) = false := by simp; omega
    have e13eq : (x == 13) = false := by simp; omega
    have e97ge : decide (97 ≤ x) = true := decide_eq_true (by omega)
    have e122le : decide (x ≤ 122) = false := decide_eq_false (by omega)
    have e65ge : decide (65 ≤ x) = true := decide_eq_true (by omega)
    have e90le : decide (x ≤ 90) = false := decide_eq_false (by omega)
    have e48ge : decide (48 ≤ x) = true := decide_eq_true (by omega)
    have e57le : decide (x ≤ 57) = false := decide_eq_false (by omega)
    have e33ge : decide (33 ≤ x) = true := decide_eq_true (by omega)
    have e126le : decide (x ≤ 126) = false := decide_eq_false (by omega)
    have e160lt : decide (x < 160) = true := decide_eq_true (by omega)
    have hsg : rSign x = true := decide_eq_true (by omega)
    have HL := Lib.hid (show rClass x = 4 by unfold rClass; rw [hsg]; repeat (first | omega | rw [if_neg (by first | decide | omega)] | rw [if_pos (by omega)]))
    have HS := Lib.hid (rsign_any x w)
    rw [hsg] at HS
    clear hI hsg
    go_enter Tryz.func104, Tryz.ntmps104
    go_wp2_with fail
    refine HS.out.mono ?_
    rintro e w1 ⟨rfl, rfl⟩
    go_wp2_with fail
    go_ret
    exact ⟨by rw [HL.out]; rfl, rfl⟩
  · have e32eq : (x == 32) = false := by simp; omega
    have e9eq : (x == 9) = false := by simp; omega
    have e10eq : (x == 10) = false := by simp; omega
    have e13eq : (x == 13) = false := by simp; omega
    have e97ge : decide (97 ≤ x) = true := decide_eq_true (by omega)
    have e122le : decide (x ≤ 122) = false := decide_eq_false (by omega)
    have e65ge : decide (65 ≤ x) = true := decide_eq_true (by omega)
    have e90le : decide (x ≤ 90) = false := decide_eq_false (by omega)
    have e48ge : decide (48 ≤ x) = true := decide_eq_true (by omega)
    have e57le : decide (x ≤ 57) = false := decide_eq_false (by omega)
    have e33ge : decide (33 ≤ x) = true := decide_eq_true (by omega)
    have e126le : decide (x ≤ 126) = false := decide_eq_false (by omega)
    have e160lt : decide (x < 160) = false := decide_eq_false (by omega)
    have hsg : rSign x = true := decide_eq_true (by omega)
    have HL := Lib.hid (show rClass x = 5 by unfold rClass; rw [hsg]; repeat (first | omega | rw [if_neg (by first | decide | omega)] | rw [if_pos (by omega)]))
    have HS := Lib.hid (rsign_any x w)
    rw [hsg] at HS
    clear hI hsg
    go_enter Tryz.func104, Tryz.ntmps104
    go_wp2_with fail
    refine HS.out.mono ?_
    rintro e w1 ⟨rfl, rfl⟩
    go_wp2_with fail
    go_ret
    exact ⟨by rw [HL.out]; rfl, rfl⟩
  · have e32eq : (x == 32) = false := by simp; omega
    have e9eq : (x == 9) = false := by simp; omega
    have e10eq : (x == 10) = false := by simp; omega
    have e13eq : (x == 13) = false := by simp; omega
    have e97ge : decide (97 ≤ x) = true := decide_eq_true (by omega)
    have e122le : decide (x ≤ 122) = false := decide_eq_false (by omega)
    have e65ge : decide (65 ≤ x) = true := decide_eq_true (by omega)
    have e90le : decide (x ≤ 90) = false := decide_eq_false (by omega)
    have e48ge : decide (48 ≤ x) = true := decide_eq_true (by omega)
    have e57le : decide (x ≤ 57) = false := decide_eq_false (by omega)
    have e33ge : decide (33 ≤ x) = true := decide_eq_true (by omega)
    have e126le : decide (x ≤ 126) = false := decide_eq_false (by omega)
    have e160lt : decide (x < 160) = false := decide_eq_false (by omega)
    have hsg : rSign x = false := decide_eq_false (by omega)
    have HL := Lib.hid (show rClass x = 6 by unfold rClass; rw [hsg]; rfl)
    have HS := Lib.hid (rsign_any x w)
    rw [hsg] at HS
    clear hI hsg
    go_enter Tryz.func104, Tryz.ntmps104
    go_wp2_with fail
    refine HS.out.mono ?_
    rintro e w1 ⟨rfl, rfl⟩
    go_wp2_with fail
    go_ret
    exact ⟨by rw [HL.out]; rfl, rfl⟩
  · have e32eq : (x == 32) = false := by simp; omega
    have e9eq : (x == 9) = false := by simp; omega
    have e10eq : (x == 10) = false := by simp; omega
    have e13eq : (x == 13) = false := by simp; omega
    have e97ge : decide (97 ≤ x) = true := decide_eq_true (by omega)
    have e122le : decide (x ≤ 122) = false := decide_eq_false (by omega)
    have e65ge : decide (65 ≤ x) = true := decide_eq_true (by omega)
    have e90le : decide (x ≤ 90) = false := decide_eq_false (by omega)
    have e48ge : decide (48 ≤ x) = true := decide_eq_true (by omega)
    have e57le : decide (x ≤ 57) = false := decide_eq_false (by omega)
    have e33ge : decide (33 ≤ x) = true := decide_eq_true (by omega)
    have e126le : decide (x ≤ 126) = false := decide_eq_false (by omega)
    have e160lt : decide (x < 160) = false := decide_eq_false (by omega)
    have hsg : rSign x = true := decide_eq_true (by omega)
    have HL := Lib.hid (show rClass x = 5 by unfold rClass; rw [hsg]; repeat (first | omega | rw [if_neg (by first | decide | omega)] | rw [if_pos (by omega)]))
    have HS := Lib.hid (rsign_any x w)
    rw [hsg] at HS
    clear hI hsg
    go_enter Tryz.func104, Tryz.ntmps104
    go_wp2_with fail
    refine HS.out.mono ?_
    rintro e w1 ⟨rfl, rfl⟩
    go_wp2_with fail
    go_ret
    exact ⟨by rw [HL.out]; rfl, rfl⟩
  · have e32eq : (x == 32) = false := by simp; omega
    have e9eq : (x == 9) = false := by simp; omega
    have e10eq : (x == 10) = false := by simp; omega
    have e13eq : (x == 13) = false := by simp; omega
    have e97ge : decide (97 ≤ x) = true := decide_eq_true (by omega)
    have e122le : decide (x ≤ 122) = false := decide_eq_false (by omega)
    have e65ge : decide (65 ≤ x) = true := decide_eq_true (by omega)
    have e90le : decide (x ≤ 90) = false := decide_eq_false (by omega)
    have e48ge : decide (48 ≤ x) = true := decide_eq_true (by omega)
    have e57le : decide (x ≤ 57) = false := decide_eq_false (by omega)
    have e33ge : decide (33 ≤ x) = true := decide_eq_true (by omega)
    have e126le : decide (x ≤ 126) = false := decide_eq_false (by omega)
    have e160lt : decide (x < 160) = false := decide_eq_false (by omega)
    have hsg : rSign x = false := decide_eq_false (by omega)
    have HL := Lib.hid (show rClass x = 6 by unfold rClass; rw [hsg]; rfl)
    have HS := Lib.hid (rsign_any x w)
    rw [hsg] at HS
    clear hI hsg
    go_enter Tryz.func104, Tryz.ntmps104
    go_wp2_with fail
    refine HS.out.mono ?_
    rintro e w1 ⟨rfl, rfl⟩
    go_wp2_with fail
    go_ret
    exact ⟨by rw [HL.out]; rfl, rfl⟩

/-- The number that a sign's bytes make, if those behind the first are such. -/
def rCont (s : ByteArray) (many k : Nat) (n : Int) : Option Int :=
  if h : k < many then (if byteAt s k < 128 ∨ 191 < byteAt s k then none else rCont s many (k + 1) (n * 64 + byteAt s k - 128)) else some n
termination_by many - k
theorem rCont_step (s : ByteArray) (many k : Nat) (n : Int) (h : k < many) : rCont s many k n = (if byteAt s k < 128 ∨ 191 < byteAt s k then none else rCont s many (k + 1) (n * 64 + byteAt s k - 128)) := by rw [rCont, dif_pos h]
theorem rCont_end (s : ByteArray) (many k : Nat) (n : Int) (h : ¬ k < many) : rCont s many k n = some n := by rw [rCont, dif_neg h]
def rDone (many : Nat) : Option Int → Int × Nat
  | none => (-1, 0)
  | some n => if rSign n = true ∧ rBytesLen n = many then (n, many) else (-1, 0)
theorem rDone_some (many : Nat) (n : Int) : rDone many (some n) = if rSign n = true ∧ rBytesLen n = many then (n, many) else (-1, 0) := rfl
def rEnd (s : ByteArray) (n : Int) (many : Nat) : Int × Nat := if s.size < many then (-1, 0) else rDone many (rCont s many 1 n)
def rFirst (s : ByteArray) : Int × Nat :=
  if byteAt s 0 < 128 then (byteAt s 0, 1)
  else if byteAt s 0 < 192 then (-1, 0)
  else if byteAt s 0 < 224 then rEnd s (byteAt s 0 - 192) 2
  else if byteAt s 0 < 240 then rEnd s (byteAt s 0 - 224) 3
  else if byteAt s 0 < 248 then rEnd s (byteAt s 0 - 240) 4
  else (-1, 0)
theorem rFirst_many (s : ByteArray) (h : 1 ≤ s.size) : (rFirst s).2 ≤ s.size := by
  have e : ∀ (m : Nat) (r : Option Int), m ≤ s.size → (rDone m r).2 ≤ s.size := by
    intro m r hm
    cases r with
    | none => exact Nat.zero_le _
    | some n => unfold rDone; dsimp only; split <;> simp <;> omega
  have e2 : ∀ (n : Int) (m : Nat), (rEnd s n m).2 ≤ s.size := by
    intro n m
    unfold rEnd
    split
    · exact Nat.zero_le _
    · exact e _ _ (by omega)
  unfold rFirst
  repeat' split
  all_goals first | exact e2 _ _ | exact h | exact Nat.zero_le _

set_option maxRecDepth 100000 in
set_option maxHeartbeats 4000000 in
theorem first_any (s : ByteArray) (w : World) (h1 : 1 ≤ s.size) (hs : s.size ≤ 4096) :
    Calls Tryz.prog 41 #[.string s] w fun e w' => e = .returned (.tuple #[.int .i64 (rFirst s).1, .int .i64 ((rFirst s).2 : Int)]) ∧ Fr (fun _ => False) w w' := by
  obtain ⟨rf, hrf⟩ : ∃ rf, rf = rFirst s := ⟨_, rfl⟩
  rw [← hrf]
  unfold rFirst at hrf
  have HRF := Lib.hid hrf
  clear hrf
  have hix : ∀ w : World, (Instr.index 9 (.string s) (.int .i64 0)).run Tryz.prog w = .ok (.int .u8 (byteAt s 0)) w := run_index_at (s := s) (i := 0) (by omega)
  have hbl := byteAt_le s 0
  have hs0 : (0 : Int) < (s.size : Int) := by omega
  generalize hc : byteAt s 0 = c at *
  clear hc
  rcases (show c < 128 ∨ (128 ≤ c ∧ c < 192) ∨ (192 ≤ c ∧ c < 224) ∨ (224 ≤ c ∧ c < 240) ∨ (240 ≤ c ∧ c < 248) ∨ 248 ≤ c by omega) with hI | hI | hI | hI | hI | hI
  · have e192ge : decide (192 ≤ c) = false := decide_eq_false (by omega)
    have e224ge : decide (224 ≤ c) = false := decide_eq_false (by omega)
    have e240ge : decide (240 ≤ c) = false := decide_eq_false (by omega)
    have e128lt : decide (c < 128) = true := decide_eq_true (by omega)
    have e224lt : decide (c < 224) = true := decide_eq_true (by omega)
    have e240lt : decide (c < 240) = true := decide_eq_true (by omega)
    have e248lt : decide (c < 248) = true := decide_eq_true (by omega)
    have HV := Lib.hid (show rf = (c, 1) by rw [HRF.out]; repeat (first | rw [if_neg (by omega)] | rw [if_pos (by omega)]))
    have HI := Lib.hid hI
    clear hI HRF
    go_enter Tryz.func41, Tryz.ntmps41
    go_wp2_with fail
    go_ret2
    exact ⟨by rw [HV.out]; rfl, Fr.refl _ _⟩
  · have e192ge : decide (192 ≤ c) = false := decide_eq_false (by omega)
    have e224ge : decide (224 ≤ c) = false := decide_eq_false (by omega)
    have e240ge : decide (240 ≤ c) = false := decide_eq_false (by omega)
    have e128lt : decide (c < 128) = false := decide_eq_false (by omega)
    have e224lt : decide (c < 224) = true := decide_eq_true (by omega)
    have e240lt : decide (c < 240) = true := decide_eq_true (by omega)
    have e248lt : decide (c < 248) = true := decide_eq_true (by omega)
    have HV := Lib.hid (show rf = (-1, 0) by rw [HRF.out]; repeat (first | rw [if_neg (by omega)] | rw [if_pos (by omega)]))
    have HI := Lib.hid hI
    clear hI HRF
    go_enter Tryz.func41, Tryz.ntmps41
    go_wp2_with fail
    go_ret2
    exact ⟨by rw [HV.out]; rfl, Fr.refl _ _⟩
  · have e192ge : decide (192 ≤ c) = true := decide_eq_true (by omega)
    have e224ge : decide (224 ≤ c) = false := decide_eq_false (by omega)
    have e240ge : decide (240 ≤ c) = false := decide_eq_false (by omega)
    have e128lt : decide (c < 128) = false := decide_eq_false (by omega)
    have e224lt : decide (c < 224) = true := decide_eq_true (by omega)
    have e240lt : decide (c < 240) = true := decide_eq_true (by omega)
    have e248lt : decide (c < 248) = true := decide_eq_true (by omega)
    have HV := Lib.hid (show rf = rEnd s (c - 192) 2 by rw [HRF.out]; repeat (first | rw [if_neg (by omega)] | rw [if_pos (by omega)]))
    have HI := Lib.hid hI
    clear hI HRF
    by_cases hsz : s.size < 2
    · have hsz1 : (s.size : Int) < 2 := by omega
      have hsz2 : decide ((s.size : Int) < 2) = true := decide_eq_true hsz1
      have HV := Lib.hid (show rf = (-1, 0) by rw [HV.out]; unfold rEnd; rw [if_pos hsz])
      go_enter Tryz.func41, Tryz.ntmps41
      go_wp2_with fail
      go_ret2
      exact ⟨by rw [HV.out]; rfl, Fr.refl _ _⟩
    · have hsz1 : decide ((s.size : Int) < 2) = false := decide_eq_false (by omega)
      have hsz3 : (2 : Int) ≤ (s.size : Int) := by omega
      have HV := Lib.hid (show rf = rDone 2 (rCont s 2 1 (c - 192)) by rw [HV.out]; unfold rEnd; rw [if_neg hsz])
      obtain ⟨r0, hr0⟩ : ∃ r0, r0 = rCont s 2 1 (c - 192) := ⟨_, rfl⟩
      rw [← hr0] at HV
      have HR0 := Lib.hid hr0
      clear hr0 hsz
      go_enter Tryz.func41, Tryz.ntmps41
      go_wp2_with fail
      go_loopw [4, 7] (fun nv kv wr => ∃ (n : Int) (k : Nat), nv = .int .i64 n ∧ kv = .int .i64 (k : Int) ∧ 1 ≤ k ∧ k ≤ 2 ∧ 0 ≤ n ∧ n + 1 ≤ 32 * 64 ^ (k - 1) ∧ wr = w ∧ rCont s 2 k n = r0) (fun _ kv _ => 2 - (intOf kv).toNat)
      case atStart => have hI := HI.out; exact ⟨c - 192, 1, by go_num, rfl, by omega, by omega, by omega, by simp; omega, rfl, HR0.out.symm⟩
      case round =>
        obtain ⟨n, k, rfl, rfl, hk1, hk2, hn0, hn1, rfl, hcn⟩ := hrel
        have hnb : n < 8388608 := by
          have : k = 1 ∨ k = 2 ∨ k = 3 ∨ k = 4 := by omega
          rcases this with rfl | rfl | rfl | rfl <;> simp at hn1 <;> omega
        by_cases hlt : k < 2
        · have hlt' : (k : Int) < 2 := by omega
          have hks : (k : Int) < (s.size : Int) := by omega
          have hkx := run_index_at (s := s) (i := k) (by omega)
          have hbk := byteAt_le s k
          rw [rCont_step s 2 k n hlt] at hcn
          generalize byteAt s k = b at *
          have HCN := Lib.hid hcn
          have hpow : (64 : Int) ^ k = 64 * 64 ^ (k - 1) := by
            obtain ⟨j, rfl⟩ : ∃ j, k = j + 1 := ⟨k - 1, by omega⟩
            rw [Int.pow_succ]; simp; omega
          have HN1 := Lib.hid (And.intro hn1 hpow)
          clear hcn hn1 hpow
          by_cases hb1 : b < 128
          · have hb1' : decide (b < 128) = true := decide_eq_true hb1
            have HX := Lib.hid (show rf = (-1, 0) by rw [HV.out, ← HCN.out, if_pos (.inl hb1)]; rfl)
            go_wp2_with fail
            go_ret2
            exact ⟨by rw [HX.out]; rfl, Fr.refl _ _⟩
          · have hb1' : decide (b < 128) = false := decide_eq_false hb1
            by_cases hb2 : 191 < b
            · have hb2' : decide (191 < b) = true := decide_eq_true hb2
              have HX := Lib.hid (show rf = (-1, 0) by rw [HV.out, ← HCN.out, if_pos (.inr hb2)]; rfl)
              clear hb1
              go_wp2_with fail
              go_ret2
              exact ⟨by rw [HX.out]; rfl, Fr.refl _ _⟩
            · have hb2' : decide (191 < b) = false := decide_eq_false hb2
              have HX := Lib.hid (show rCont s 2 (k + 1) (n * 64 + b - 128) = r0 by rw [← HCN.out, if_neg (by omega)])
              have hb3 : 128 ≤ b := by omega
              have hb4 : b ≤ 191 := by omega
              clear hb1 hb2
              go_wp2_with fail
              go_roundw
              case rel => exact ⟨n * 64 + b - 128, k + 1, by go_num, by go_num, by omega, by omega, by omega, by have h1 := HN1.out.1; have h2 := HN1.out.2; simp only [Nat.add_sub_cancel]; rw [h2]; omega, by simp, HX.out⟩
              case measure => simp [intOf]; omega
        · have hge : (2 : Int) ≤ (k : Int) := by omega
          have hlf : ¬ (k : Int) < 2 := by omega
          rw [rCont_end s 2 k n hlt] at hcn
          have HX := Lib.hid (show rf = rDone 2 (some n) by rw [HV.out, ← hcn])
          rw [rDone_some] at HX
          clear hcn hlt hn1
          have HS := Lib.hid (fun w => rsign_any n w)
          have HB := Lib.hid (fun w => rbytes_any n w)
          have hbm : rBytesLen n ≤ 4 := by unfold rBytesLen; (repeat' split) <;> omega
          generalize rSign n = sg at *
          generalize rBytesLen n = bl at *
          cases sg with
          | false =>
            have HY := Lib.hid (show rf = (-1, 0) by rw [HX.out]; simp)
            clear HX
            go_wp2_with fail
            refine (HS.out _).mono ?_
            rintro e w1 ⟨rfl, rfl⟩
            go_wp2_with fail
            go_ret2
            exact ⟨by rw [HY.out]; rfl, Fr.refl _ _⟩
          | true =>
            by_cases hbl2 : bl = 2
            · subst hbl2
              have HY := Lib.hid (show rf = (n, 2) by rw [HX.out]; simp)
              clear HX
              go_wp2_with fail
              refine (HS.out _).mono ?_
              rintro e w1 ⟨rfl, rfl⟩
              go_wp2_with fail
              refine (HB.out _).mono ?_
              rintro e w2 ⟨A, c2, rfl, hf⟩
              have HF := Lib.hid hf
              clear hf
              go_wp2_with fail
              go_ret2
              exact ⟨by rw [HY.out]; rfl, HF.out⟩
            · have hne : (((bl : Nat) : Int) != 2) = true := by simp; omega
              have HY := Lib.hid (show rf = (-1, 0) by rw [HX.out]; simp [hbl2])
              clear HX
              clear hbl2
              go_wp2_with fail
              refine (HS.out _).mono ?_
              rintro e w1 ⟨rfl, rfl⟩
              go_wp2_with fail
              refine (HB.out _).mono ?_
              rintro e w2 ⟨A, c2, rfl, hf⟩
              have HF := Lib.hid hf
              clear hf
              go_wp2_with fail
              go_ret2
              exact ⟨by rw [HY.out]; rfl, HF.out⟩
  · have e192ge : decide (192 ≤ c) = true := decide_eq_true (by omega)
    have e224ge : decide (224 ≤ c) = true := decide_eq_true (by omega)
    have e240ge : decide (240 ≤ c) = false := decide_eq_false (by omega)
    have e128lt : decide (c < 128) = false := decide_eq_false (by omega)
    have e224lt : decide (c < 224) = false := decide_eq_false (by omega)
    have e240lt : decide (c < 240) = true := decide_eq_true (by omega)
    have e248lt : decide (c < 248) = true := decide_eq_true (by omega)
    have HV := Lib.hid (show rf = rEnd s (c - 224) 3 by rw [HRF.out]; repeat (first | rw [if_neg (by omega)] | rw [if_pos (by omega)]))
    have HI := Lib.hid hI
    clear hI HRF
    by_cases hsz : s.size < 3
    · have hsz1 : (s.size : Int) < 3 := by omega
      have hsz2 : decide ((s.size : Int) < 3) = true := decide_eq_true hsz1
      have HV := Lib.hid (show rf = (-1, 0) by rw [HV.out]; unfold rEnd; rw [if_pos hsz])
      go_enter Tryz.func41, Tryz.ntmps41
      go_wp2_with fail
      go_ret2
      exact ⟨by rw [HV.out]; rfl, Fr.refl _ _⟩
    · have hsz1 : decide ((s.size : Int) < 3) = false := decide_eq_false (by omega)
      have hsz3 : (3 : Int) ≤ (s.size : Int) := by omega
      have HV := Lib.hid (show rf = rDone 3 (rCont s 3 1 (c - 224)) by rw [HV.out]; unfold rEnd; rw [if_neg hsz])
      obtain ⟨r0, hr0⟩ : ∃ r0, r0 = rCont s 3 1 (c - 224) := ⟨_, rfl⟩
      rw [← hr0] at HV
      have HR0 := Lib.hid hr0
      clear hr0 hsz
      go_enter Tryz.func41, Tryz.ntmps41
      go_wp2_with fail
      go_loopw [4, 7] (fun nv kv wr => ∃ (n : Int) (k : Nat), nv = .int .i64 n ∧ kv = .int .i64 (k : Int) ∧ 1 ≤ k ∧ k ≤ 3 ∧ 0 ≤ n ∧ n + 1 ≤ 32 * 64 ^ (k - 1) ∧ wr = w ∧ rCont s 3 k n = r0) (fun _ kv _ => 3 - (intOf kv).toNat)
      case atStart => have hI := HI.out; exact ⟨c - 224, 1, by go_num, rfl, by omega, by omega, by omega, by simp; omega, rfl, HR0.out.symm⟩
      case round =>
        obtain ⟨n, k, rfl, rfl, hk1, hk2, hn0, hn1, rfl, hcn⟩ := hrel
        have hnb : n < 8388608 := by
          have : k = 1 ∨ k = 2 ∨ k = 3 ∨ k = 4 := by omega
          rcases this with rfl | rfl | rfl | rfl <;> simp at hn1 <;> omega
        by_cases hlt : k < 3
        · have hlt' : (k : Int) < 3 := by omega
          have hks : (k : Int) < (s.size : Int) := by omega
          have hkx := run_index_at (s := s) (i := k) (by omega)
          have hbk := byteAt_le s k
          rw [rCont_step s 3 k n hlt] at hcn
          generalize byteAt s k = b at *
          have HCN := Lib.hid hcn
          have hpow : (64 : Int) ^ k = 64 * 64 ^ (k - 1) := by
            obtain ⟨j, rfl⟩ : ∃ j, k = j + 1 := ⟨k - 1, by omega⟩
            rw [Int.pow_succ]; simp; omega
          have HN1 := Lib.hid (And.intro hn1 hpow)
          clear hcn hn1 hpow
          by_cases hb1 : b < 128
          · have hb1' : decide (b < 128) = true := decide_eq_true hb1
            have HX := Lib.hid (show rf = (-1, 0) by rw [HV.out, ← HCN.out, if_pos (.inl hb1)]; rfl)
            go_wp2_with fail
            go_ret2
            exact ⟨by rw [HX.out]; rfl, Fr.refl _ _⟩
          · have hb1' : decide (b < 128) = false := decide_eq_false hb1
            by_cases hb2 : 191 < b
            · have hb2' : decide (191 < b) = true := decide_eq_true hb2
              have HX := Lib.hid (show rf = (-1, 0) by rw [HV.out, ← HCN.out, if_pos (.inr hb2)]; rfl)
              clear hb1
              go_wp2_with fail
              go_ret2
              exact ⟨by rw [HX.out]; rfl, Fr.refl _ _⟩
            · have hb2' : decide (191 < b) = false := decide_eq_false hb2
              have HX := Lib.hid (show rCont s 3 (k + 1) (n * 64 + b - 128) = r0 by rw [← HCN.out, if_neg (by omega)])
              have hb3 : 128 ≤ b := by omega
              have hb4 : b ≤ 191 := by omega
              clear hb1 hb2
              go_wp2_with fail
              go_roundw
              case rel => exact ⟨n * 64 + b - 128, k + 1, by go_num, by go_num, by omega, by omega, by omega, by have h1 := HN1.out.1; have h2 := HN1.out.2; simp only [Nat.add_sub_cancel]; rw [h2]; omega, by simp, HX.out⟩
              case measure => simp [intOf]; omega
        · have hge : (3 : Int) ≤ (k : Int) := by omega
          have hlf : ¬ (k : Int) < 3 := by omega
          rw [rCont_end s 3 k n hlt] at hcn
          have HX := Lib.hid (show rf = rDone 3 (some n) by rw [HV.out, ← hcn])
          rw [rDone_some] at HX
          clear hcn hlt hn1
          have HS := Lib.hid (fun w => rsign_any n w)
          have HB := Lib.hid (fun w => rbytes_any n w)
          have hbm : rBytesLen n ≤ 4 := by unfold rBytesLen; (repeat' split) <;> omega
          generalize rSign n = sg at *
          generalize rBytesLen n = bl at *
          cases sg with
          | false =>
            have HY := Lib.hid (show rf = (-1, 0) by rw [HX.out]; simp)
            clear HX
            go_wp2_with fail
            refine (HS.out _).mono ?_
            rintro e w1 ⟨rfl, rfl⟩
            go_wp2_with fail
            go_ret2
            exact ⟨by rw [HY.out]; rfl, Fr.refl _ _⟩
          | true =>
            by_cases hbl2 : bl = 3
            · subst hbl2
              have HY := Lib.hid (show rf = (n, 3) by rw [HX.out]; simp)
              clear HX
              go_wp2_with fail
              refine (HS.out _).mono ?_
              rintro e w1 ⟨rfl, rfl⟩
              go_wp2_with fail
              refine (HB.out _).mono ?_
              rintro e w2 ⟨A, c2, rfl, hf⟩
              have HF := Lib.hid hf
              clear hf
              go_wp2_with fail
              go_ret2
              exact ⟨by rw [HY.out]; rfl, HF.out⟩
            · have hne : (((bl : Nat) : Int) != 3) = true := by simp; omega
              have HY := Lib.hid (show rf = (-1, 0) by rw [HX.out]; simp [hbl2])
              clear HX
              clear hbl2
              go_wp2_with fail
              refine (HS.out _).mono ?_
              rintro e w1 ⟨rfl, rfl⟩
              go_wp2_with fail
              refine (HB.out _).mono ?_
              rintro e w2 ⟨A, c2, rfl, hf⟩
              have HF := Lib.hid hf
              clear hf
              go_wp2_with fail
              go_ret2
              exact ⟨by rw [HY.out]; rfl, HF.out⟩
  · have e192ge : decide (192 ≤ c) = true := decide_eq_true (by omega)
    have e224ge : decide (224 ≤ c) = true := decide_eq_true (by omega)
    have e240ge : decide (240 ≤ c) = true := decide_eq_true (by omega)
    have e128lt : decide (c < 128) = false := decide_eq_false (by omega)
    have e224lt : decide (c < 224) = false := decide_eq_false (by omega)
    have e240lt : decide (c < 240) = false := decide_eq_false (by omega)
    have e248lt : decide (c < 248) = true := decide_eq_true (by omega)
    have HV := Lib.hid (show rf = rEnd s (c - 240) 4 by rw [HRF.out]; repeat (first | rw [if_neg (by omega)] | rw [if_pos (by omega)]))
    have HI := Lib.hid hI
    clear hI HRF
    by_cases hsz : s.size < 4
    · have hsz1 : (s.size : Int) < 4 := by omega
      have hsz2 : decide ((s.size : Int) < 4) = true := decide_eq_true hsz1
      have HV := Lib.hid (show rf = (-1, 0) by rw [HV.out]; unfold rEnd; rw [if_pos hsz])
      go_enter Tryz.func41, Tryz.ntmps41
      go_wp2_with fail
      go_ret2
      exact ⟨by rw [HV.out]; rfl, Fr.refl _ _⟩
    · have hsz1 : decide ((s.size : Int) < 4) = false := decide_eq_false (by omega)
      have hsz3 : (4 : Int) ≤ (s.size : Int) := by omega
      have HV := Lib.hid (show rf = rDone 4 (rCont s 4 1 (c - 240)) by rw [HV.out]; unfold rEnd; rw [if_neg hsz])
      obtain ⟨r0, hr0⟩ : ∃ r0, r0 = rCont s 4 1 (c - 240) := ⟨_, rfl⟩
      rw [← hr0] at HV
      have HR0 := Lib.hid hr0
      clear hr0 hsz
      go_enter Tryz.func41, Tryz.ntmps41
      go_wp2_with fail
      go_loopw [4, 7] (fun nv kv wr => ∃ (n : Int) (k : Nat), nv = .int .i64 n ∧ kv = .int .i64 (k : Int) ∧ 1 ≤ k ∧ k ≤ 4 ∧ 0 ≤ n ∧ n + 1 ≤ 32 * 64 ^ (k - 1) ∧ wr = w ∧ rCont s 4 k n = r0) (fun _ kv _ => 4 - (intOf kv).toNat)
      case atStart => have hI := HI.out; exact ⟨c - 240, 1, by go_num, rfl, by omega, by omega, by omega, by simp; omega, rfl, HR0.out.symm⟩
      case round =>
        obtain ⟨n, k, rfl, rfl, hk1, hk2, hn0, hn1, rfl, hcn⟩ := hrel
        have hnb : n < 8388608 := by
          have : k = 1 ∨ k = 2 ∨ k = 3 ∨ k = 4 := by omega
          rcases this with rfl | rfl | rfl | rfl <;> simp at hn1 <;> omega
        by_cases hlt : k < 4
        · have hlt' : (k : Int) < 4 := by omega
          have hks : (k : Int) < (s.size : Int) := by omega
          have hkx := run_index_at (s := s) (i := k) (by omega)
          have hbk := byteAt_le s k
          rw [rCont_step s 4 k n hlt] at hcn
          generalize byteAt s k = b at *
          have HCN := Lib.hid hcn
          have hpow : (64 : Int) ^ k = 64 * 64 ^ (k - 1) := by
            obtain ⟨j, rfl⟩ : ∃ j, k = j + 1 := ⟨k - 1, by omega⟩
            rw [Int.pow_succ]; simp; omega
          have HN1 := Lib.hid (And.intro hn1 hpow)
          clear hcn hn1 hpow
          by_cases hb1 : b < 128
          · have hb1' : decide (b < 128) = true := decide_eq_true hb1
            have HX := Lib.hid (show rf = (-1, 0) by rw [HV.out, ← HCN.out, if_pos (.inl hb1)]; rfl)
            go_wp2_with fail
            go_ret2
            exact ⟨by rw [HX.out]; rfl, Fr.refl _ _⟩
          · have hb1' : decide (b < 128) = false := decide_eq_false hb1
            by_cases hb2 : 191 < b
            · have hb2' : decide (191 < b) = true := decide_eq_true hb2
              have HX := Lib.hid (show rf = (-1, 0) by rw [HV.out, ← HCN.out, if_pos (.inr hb2)]; rfl)
              clear hb1
              go_wp2_with fail
              go_ret2
              exact ⟨by rw [HX.out]; rfl, Fr.refl _ _⟩
            · have hb2' : decide (191 < b) = false := decide_eq_false hb2
              have HX := Lib.hid (show rCont s 4 (k + 1) (n * 64 + b - 128) = r0 by rw [← HCN.out, if_neg (by omega)])
              have hb3 : 128 ≤ b := by omega
              have hb4 : b ≤ 191 := by omega
              clear hb1 hb2
              go_wp2_with fail
              go_roundw
              case rel => exact ⟨n * 64 + b - 128, k + 1, by go_num, by go_num, by omega, by omega, by omega, by have h1 := HN1.out.1; have h2 := HN1.out.2; simp only [Nat.add_sub_cancel]; rw [h2]; omega, by simp, HX.out⟩
              case measure => simp [intOf]; omega
        · have hge : (4 : Int) ≤ (k : Int) := by omega
          have hlf : ¬ (k : Int) < 4 := by omega
          rw [rCont_end s 4 k n hlt] at hcn
          have HX := Lib.hid (show rf = rDone 4 (some n) by rw [HV.out, ← hcn])
          rw [rDone_some] at HX
          clear hcn hlt hn1
          have HS := Lib.hid (fun w => rsign_any n w)
          have HB := Lib.hid (fun w => rbytes_any n w)
          have hbm : rBytesLen n ≤ 4 := by unfold rBytesLen; (repeat' split) <;> omega
          generalize rSign n = sg at *
          generalize rBytesLen n = bl at *
          cases sg with
          | false =>
            have HY := Lib.hid (show rf = (-1, 0) by rw [HX.out]; simp)
            clear HX
            go_wp2_with fail
            refine (HS.out _).mono ?_
            rintro e w1 ⟨rfl, rfl⟩
            go_wp2_with fail
            go_ret2
            exact ⟨by rw [HY.out]; rfl, Fr.refl _ _⟩
          | true =>
            by_cases hbl2 : bl = 4
            · subst hbl2
              have HY := Lib.hid (show rf = (n, 4) by rw [HX.out]; simp)
              clear HX
              go_wp2_with fail
              refine (HS.out _).mono ?_
              rintro e w1 ⟨rfl, rfl⟩
              go_wp2_with fail
              refine (HB.out _).mono ?_
              rintro e w2 ⟨A, c2, rfl, hf⟩
              have HF := Lib.hid hf
              clear hf
              go_wp2_with fail
              go_ret2
              exact ⟨by rw [HY.out]; rfl, HF.out⟩
            · have hne : (((bl : Nat) : Int) != 4) = true := by simp; omega
              have HY := Lib.hid (show rf = (-1, 0) by rw [HX.out]; simp [hbl2])
              clear HX
              clear hbl2
              go_wp2_with fail
              refine (HS.out _).mono ?_
              rintro e w1 ⟨rfl, rfl⟩
              go_wp2_with fail
              refine (HB.out _).mono ?_
              rintro e w2 ⟨A, c2, rfl, hf⟩
              have HF := Lib.hid hf
              clear hf
              go_wp2_with fail
              go_ret2
              exact ⟨by rw [HY.out]; rfl, HF.out⟩
  · have e192ge : decide (192 ≤ c) = true := decide_eq_true (by omega)
    have e224ge : decide (224 ≤ c) = true := decide_eq_true (by omega)
    have e240ge : decide (240 ≤ c) = true := decide_eq_true (by omega)
    have e128lt : decide (c < 128) = false := decide_eq_false (by omega)
    have e224lt : decide (c < 224) = false := decide_eq_false (by omega)
    have e240lt : decide (c < 240) = false := decide_eq_false (by omega)
    have e248lt : decide (c < 248) = false := decide_eq_false (by omega)
    have HV := Lib.hid (show rf = (-1, 0) by rw [HRF.out]; repeat (first | rw [if_neg (by omega)] | rw [if_pos (by omega)]))
    have HI := Lib.hid hI
    clear hI HRF
    go_enter Tryz.func41, Tryz.ntmps41
    go_wp2_with fail
    go_ret2
    exact ⟨by rw [HV.out]; rfl, Fr.refl _ _⟩

end Go.Proofs.YtebddgdkndmpjaaGreatDoor
