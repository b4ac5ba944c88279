/- The document's signs: sign, class and bytes walked. -/
import Derived.Test.YtflhmieeidnpgaaGreatDoorGo
import Derived.Deep.CutBlock
import Derived.Deep.RegionLawGrows
import Derived.Deep.Cut
import Derived.Deep.CutRange
import Derived.WalkKit
import Derived.WalkLawsBesides
import Derived.WalkSpells
import Derived.Deep.QuietTactic
import Derived.BigRegion
import Derived.BigQuiet
import Derived.Lib.Hide
import Derived.Outline
import Derived.Deep.AppendLies
import Derived.Deep.RegionLaw
import Derived.Deep.RegionWith
import Derived.Deep.RegionHeld3
import Derived.Deep.LoopGhost
import Derived.Deep.DeepFit
import Derived.Laws.ResultCell
import Derived.Laws.RangeAny
import Derived.Deep.MidRow
import Derived.StillTailTactics
import Derived.OpenShut
namespace Go.Proofs.YtflhmieeidnpgaaGreatDoor
set_option linter.unusedVariables false
open Go.RowKit Go



def rSign (x : Int) : Bool := decide (0 ≤ x ∧ x ≤ 1114111 ∧ (x < 55296 ∨ 57343 < x))
def rBytesLen (x : Int) : Nat := if x < 128 then 1 else if x < 2048 then 2 else if x < 65536 then 3 else 4
def rClass (x : Int) : Int :=
  if rSign x = false then 6 else if x = 32 ∨ x = 9 ∨ x = 10 ∨ x = 13 then 0
  else if (97 ≤ x ∧ x ≤ 122) ∨ (65 ≤ x ∧ x ≤ 90) then 1 else if 48 ≤ x ∧ x ≤ 57 then 2
  else if 33 ≤ x ∧ x ≤ 126 then 3 else if x < 160 then 4 else 5

set_option maxRecDepth 100000 in
set_option maxHeartbeats 4000000 in
theorem rsign_any (x : Int) (w : World) : Calls Tryz.prog 97 #[.int .i64 x] w fun e w' => e = .returned (.bool (rSign x)) ∧ w = w' := by
  rcases (show x ≤ -1 ∨ (0 ≤ x ∧ x ≤ 55295) ∨ (55296 ≤ x ∧ x ≤ 57343) ∨ (57344 ≤ x ∧ x ≤ 1114111) ∨ 1114112 ≤ x by omega) with hI | hI | hI | hI | hI
  · have e0ge : decide (0 ≤ x) = false := decide_eq_false (by omega)
    have e1114111le : decide (x ≤ 1114111) = true := decide_eq_true (by omega)
    have e55296lt : decide (x < 55296) = true := decide_eq_true (by omega)
    have e57343gt : decide (57343 < x) = false := decide_eq_false (by omega)
    have HL := Lib.hid (show rSign x = false from decide_eq_false (by omega))
    clear hI
    go_enter Tryz.func97, Tryz.ntmps97
    go_wp2_with fail
    go_ret
    exact ⟨by rw [HL.out]; rfl, rfl⟩
  · have e0ge : decide (0 ≤ x) = true := decide_eq_true (by omega)
    have e1114111le : decide (x ≤ 1114111) = true := decide_eq_true (by omega)
    have e55296lt : decide (x < 55296) = true := decide_eq_true (by omega)
    have e57343gt : decide (57343 < x) = false := decide_eq_false (by omega)
    have HL := Lib.hid (show rSign x = true from decide_eq_true (by omega))
    clear hI
    go_enter Tryz.func97, Tryz.ntmps97
    go_wp2_with fail
    go_ret
    exact ⟨by rw [HL.out]; rfl, rfl⟩
  · have e0ge : decide (0 ≤ x) = true := decide_eq_true (by omega)
    have e1114111le : decide (x ≤ 1114111) = true := decide_eq_true (by omega)
    have e55296lt : decide (x < 55296) = false := decide_eq_false (by omega)
    have e57343gt : decide (57343 < x) = false := decide_eq_false (by omega)
    have HL := Lib.hid (show rSign x = false from decide_eq_false (by omega))
    clear hI
    go_enter Tryz.func97, Tryz.ntmps97
    go_wp2_with fail
    go_ret
    exact ⟨by rw [HL.out]; rfl, rfl⟩
  · have e0ge : decide (0 ≤ x) = true := decide_eq_true (by omega)
    have e1114111le : decide (x ≤ 1114111) = true := decide_eq_true (by omega)
    have e55296lt : decide (x < 55296) = false := decide_eq_false (by omega)
    have e57343gt : decide (57343 < x) = true := decide_eq_true (by omega)
    have HL := Lib.hid (show rSign x = true from decide_eq_true (by omega))
    clear hI
    go_enter Tryz.func97, Tryz.ntmps97
    go_wp2_with fail
    go_ret
    exact ⟨by rw [HL.out]; rfl, rfl⟩
  · have e0ge : decide (0 ≤ x) = true := decide_eq_true (by omega)
    have e1114111le : decide (x ≤ 1114111) = false := decide_eq_false (by omega)
    have e55296lt : decide (x < 55296) = false := decide_eq_false (by omega)
    have e57343gt : decide (57343 < x) = true := decide_eq_true (by omega)
    have HL := Lib.hid (show rSign x = false from decide_eq_false (by omega))
    clear hI
    go_enter Tryz.func97, Tryz.ntmps97
    go_wp2_with fail
    go_ret
    exact ⟨by rw [HL.out]; rfl, rfl⟩
set_option maxRecDepth 100000 in
set_option maxHeartbeats 4000000 in
theorem rbytes_any (x : Int) (w : World) : Calls Tryz.prog 98 #[.int .i64 x] w fun e w' => ∃ A c, e = .returned (.slice A (rBytesLen x) c) ∧ Fr (fun _ => False) w w' := by
  rcases (show x ≤ 127 ∨ (128 ≤ x ∧ x ≤ 2047) ∨ (2048 ≤ x ∧ x ≤ 65535) ∨ 65536 ≤ x by omega) with hI | hI | hI | hI
  · have e128lt : decide (x < 128) = true := decide_eq_true (by omega)
    have e2048lt : decide (x < 2048) = true := decide_eq_true (by omega)
    have e65536lt : decide (x < 65536) = true := decide_eq_true (by omega)
    have HL := Lib.hid (show rBytesLen x = 1 by unfold rBytesLen; split <;> (try omega) <;> (try split) <;> (try omega) <;> (try split) <;> omega)
    clear hI
    go_enter Tryz.func98, Tryz.ntmps98
    go_wp2_with fail
    go_ret
    exact ⟨_, _, by rw [HL.out]; rfl, (Fr.refl _ _).alloc _⟩
  · have e128lt : decide (x < 128) = false := decide_eq_false (by omega)
    have e2048lt : decide (x < 2048) = true := decide_eq_true (by omega)
    have e65536lt : decide (x < 65536) = true := decide_eq_true (by omega)
    have HL := Lib.hid (show rBytesLen x = 2 by unfold rBytesLen; split <;> (try omega) <;> (try split) <;> (try omega) <;> (try split) <;> omega)
    clear hI
    go_enter Tryz.func98, Tryz.ntmps98
    go_wp2_with fail
    go_ret
    exact ⟨_, _, by rw [HL.out]; rfl, (Fr.refl _ _).alloc _⟩
  · have e128lt : decide (x < 128) = false := decide_eq_false (by omega)
    have e2048lt : decide (x < 2048) = false := decide_eq_false (by omega)
    have e65536lt : decide (x < 65536) = true := decide_eq_true (by omega)
    have HL := Lib.hid (show rBytesLen x = 3 by unfold rBytesLen; split <;> (try omega) <;> (try split) <;> (try omega) <;> (try split) <;> omega)
    clear hI
    go_enter Tryz.func98, Tryz.ntmps98
    go_wp2_with fail
    go_ret
    exact ⟨_, _, by rw [HL.out]; rfl, (Fr.refl _ _).alloc _⟩
  · have e128lt : decide (x < 128) = false := decide_eq_false (by omega)
    have e2048lt : decide (x < 2048) = false := decide_eq_false (by omega)
    have e65536lt : decide (x < 65536) = false := decide_eq_false (by omega)
    have HL := Lib.hid (show rBytesLen x = 4 by unfold rBytesLen; split <;> (try omega) <;> (try split) <;> (try omega) <;> (try split) <;> omega)
    clear hI
    go_enter Tryz.func98, Tryz.ntmps98
    go_wp2_with fail
    go_ret
    exact ⟨_, _, by rw [HL.out]; rfl, (Fr.refl _ _).alloc _⟩
set_option maxRecDepth 100000 in
set_option maxHeartbeats 4000000 in
theorem rclass_any (x : Int) (w : World) : Calls Tryz.prog 85 #[.int .i64 x] w fun e w' => e = .returned (.int .i64 (rClass x)) ∧ w = w' := by
  rcases (show x ≤ -1 ∨ (0 ≤ x ∧ x ≤ 8) ∨ (9 ≤ x ∧ x ≤ 9) ∨ (10 ≤ x ∧ x ≤ 10) ∨ (11 ≤ x ∧ x ≤ 12) ∨ (13 ≤ x ∧ x ≤ 13) ∨ (14 ≤ x ∧ x ≤ 31) ∨ (32 ≤ x ∧ x ≤ 32) ∨ (33 ≤ x ∧ x ≤ 47) ∨ (48 ≤ x ∧ x ≤ 57) ∨ (58 ≤ x ∧ x ≤ 64) ∨ (65 ≤ x ∧ x ≤ 90) ∨ (91 ≤ x ∧ x ≤ 96) ∨ (97 ≤ x ∧ x ≤ 122) ∨ (123 ≤ x ∧ x ≤ 126) ∨ (127 ≤ x ∧ x ≤ 159) ∨ (160 ≤ x ∧ x ≤ 55295) ∨ (55296 ≤ x ∧ x ≤ 57343) ∨ (57344 ≤ x ∧ x ≤ 1114111) ∨ 1114112 ≤ x by omega) with hI | hI | hI | hI | hI | hI | hI | hI | hI | hI | hI | hI | hI | hI | hI | hI | hI | hI | hI | hI
  · have e32eq : (x == 32) = false := by simp; omega
    have e9eq : (x == 9) = false := by simp; omega
    have e10eq : (x == 10) = false := by simp; omega
    have e13eq : (x == 13) = false := by simp; omega
    have e97ge : decide (97 ≤ x) = false := decide_eq_false (by omega)
    have e122le : decide (x ≤ 122) = true := decide_eq_true (by omega)
    have e65ge : decide (65 ≤ x) = false := decide_eq_false (by omega)
    have e90le : decide (x ≤ 90) = true := decide_eq_true (by omega)
    have e48ge : decide (48 ≤ x) = false := decide_eq_false (by omega)
    have e57le : decide (x ≤ 57) = true := decide_eq_true (by omega)
    have e33ge : decide (33 ≤ x) = false := decide_eq_false (by omega)
    have e126le : decide (x ≤ 126) = true := decide_eq_true (by omega)
    have e160lt : decide (x < 160) = true := decide_eq_true (by omega)
    have hsg : rSign x = false := decide_eq_false (by omega)
    have HL := Lib.hid (show rClass x = 6 by unfold rClass; rw [hsg]; rfl)
    have HS := Lib.hid (rsign_any x w)
    rw [hsg] at HS
    clear hI hsg
    go_enter Tryz.func85, Tryz.ntmps85
    go_wp2_with fail
    refine HS.out.mono ?_
    rintro e w1 ⟨rfl, rfl⟩
    go_wp2_with fail
    go_ret
    exact ⟨by rw [HL.out]; rfl, rfl⟩
  · have e32eq : (x == 32) = false := by simp; omega
    have e9eq : (x == 9) = false := by simp; omega
    have e10eq : (x == 10) = false := by simp; omega
    have e13eq : (x == 13) = false := by simp; omega
    have e97ge : decide (97 ≤ x) = false := decide_eq_false (by omega)
    have e122le : decide (x ≤ 122) = true := decide_eq_true (by omega)
    have e65ge : decide (65 ≤ x) = false := decide_eq_false (by omega)
    have e90le : decide (x ≤ 90) = true := decide_eq_true (by omega)
    have e48ge : decide (48 ≤ x) = false := decide_eq_false (by omega)
    have e57le : decide (x ≤ 57) = true := decide_eq_true (by omega)
    have e33ge : decide (33 ≤ x) = false := decide_eq_false (by omega)
    have e126le : decide (x ≤ 126) = true := decide_eq_true (by omega)
    have e160lt : decide (x < 160) = true := decide_eq_true (by omega)
    have hsg : rSign x = true := decide_eq_true (by omega)
    have HL := Lib.hid (show rClass x = 4 by unfold rClass; rw [hsg]; repeat (first | omega | rw [if_neg (by first | decide | omega)] | rw [if_pos (by omega)]))
    have HS := Lib.hid (rsign_any x w)
    rw [hsg] at HS
    clear hI hsg
    go_enter Tryz.func85, Tryz.ntmps85
    go_wp2_with fail
    refine HS.out.mono ?_
    rintro e w1 ⟨rfl, rfl⟩
    go_wp2_with fail
    go_ret
    exact ⟨by rw [HL.out]; rfl, rfl⟩
  · have e32eq : (x == 32) = false := by simp; omega
    have e9eq : (x == 9) = true := by simp; omega
    have e10eq : (x == 10) = false := by simp; omega
    have e13eq : (x == 13) = false := by simp; omega
    have e97ge : decide (97 ≤ x) = false := decide_eq_false (by omega)
    have e122le : decide (x ≤ 122) = true := decide_eq_true (by omega)
    have e65ge : decide (65 ≤ x) = false := decide_eq_false (by omega)
    have e90le : decide (x ≤ 90) = true := decide_eq_true (by omega)
    have e48ge : decide (48 ≤ x) = false := decide_eq_false (by omega)
    have e57le : decide (x ≤ 57) = true := decide_eq_true (by omega)
    have e33ge : decide (33 ≤ x) = false := decide_eq_false (by omega)
    have e126le : decide (x ≤ 126) = true := decide_eq_true (by omega)
    have e160lt : decide (x < 160) = true := decide_eq_true (by omega)
    have hsg : rSign x = true := decide_eq_true (by omega)
    have HL := Lib.hid (show rClass x = 0 by unfold rClass; rw [hsg]; repeat (first | omega | rw [if_neg (by first | decide | omega)] | rw [if_pos (by omega)]))
    have HS := Lib.hid (rsign_any x w)
    rw [hsg] at HS
    clear hI hsg
    go_enter Tryz.func85, Tryz.ntmps85
    go_wp2_with fail
    refine HS.out.mono ?_
    rintro e w1 ⟨rfl, rfl⟩
    go_wp2_with fail
    go_ret
    exact ⟨by rw [HL.out]; rfl, rfl⟩
  · have e32eq : (x == 32) = false := by simp; omega
    have e9eq : (x == 9) = false := by simp; omega
    have e10eq : (x == 10) = true := by simp; omega
    have e13eq : (x == 13) = false := by simp; omega
    have e97ge : decide (97 ≤ x) = false := decide_eq_false (by omega)
    have e122le : decide (x ≤ 122) = true := decide_eq_true (by omega)
    have e65ge : decide (65 ≤ x) = false := decide_eq_false (by omega)
    have e90le : decide (x ≤ 90) = true := decide_eq_true (by omega)
    have e48ge : decide (48 ≤ x) = false := decide_eq_false (by omega)
    have e57le : decide (x ≤ 57) = true := decide_eq_true (by omega)
    have e33ge : decide (33 ≤ x) = false := decide_eq_false (by omega)
    have e126le : decide (x ≤ 126) = true := decide_eq_true (by omega)
    have e160lt : decide (x < 160) = true := decide_eq_true (by omega)
    have hsg : rSign x = true := decide_eq_true (by omega)
    have HL := Lib.hid (show rClass x = 0 by unfold rClass; rw [hsg]; repeat (first | omega | rw [if_neg (by first | decide | omega)] | rw [if_pos (by omega)]))
    have HS := Lib.hid (rsign_any x w)
    rw [hsg] at HS
    clear hI hsg
    go_enter Tryz.func85, Tryz.ntmps85
    go_wp2_with fail
    refine HS.out.mono ?_
    rintro e w1 ⟨rfl, rfl⟩
    go_wp2_with fail
    go_ret
    exact ⟨by rw [HL.out]; rfl, rfl⟩
  · have e32eq : (x == 32) = false := by simp; omega
    have e9eq : (x == 9) = false := by simp; omega
    have e10eq : (x == 10) = false := by simp; omega
    have e13eq : (x == 13) = false := by simp; omega
    have e97ge : decide (97 ≤ x) = false := decide_eq_false (by omega)
    have e122le : decide (x ≤ 122) = true := decide_eq_true (by omega)
    have e65ge : decide (65 ≤ x) = false := decide_eq_false (by omega)
    have e90le : decide (x ≤ 90) = true := decide_eq_true (by omega)
    have e48ge : decide (48 ≤ x) = false := decide_eq_false (by omega)
    have e57le : decide (x ≤ 57) = true := decide_eq_true (by omega)
    have e33ge : decide (33 ≤ x) = false := decide_eq_false (by omega)
    have e126le : decide (x ≤ 126) = true := decide_eq_true (by omega)
    have e160lt : decide (x < 160) = true := decide_eq_true (by omega)
    have hsg : rSign x = true := decide_eq_true (by omega)
    have HL := Lib.hid (show rClass x = 4 by unfold rClass; rw [hsg]; repeat (first | omega | rw [if_neg (by first | decide | omega)] | rw [if_pos (by omega)]))
    have HS := Lib.hid (rsign_any x w)
    rw [hsg] at HS
    clear hI hsg
    go_enter Tryz.func85, Tryz.ntmps85
    go_wp2_with fail
    refine HS.out.mono ?_
    rintro e w1 ⟨rfl, rfl⟩
    go_wp2_with fail
    go_ret
    exact ⟨by rw [HL.out]; rfl, rfl⟩
  · have e32eq : (x == 32) = false := by simp; omega
    have e9eq : (x == 9) = false := by simp; omega
    have e10eq : (x == 10) = false := by simp; omega
    have e13eq : (x == 13) = true := by simp; omega
    have e97ge : decide (97 ≤ x) = false := decide_eq_false (by omega)
    have e122le : decide (x ≤ 122) = true := decide_eq_true (by omega)
    have e65ge : decide (65 ≤ x) = false := decide_eq_false (by omega)
    have e90le : decide (x ≤ 90) = true := decide_eq_true (by omega)
    have e48ge : decide (48 ≤ x) = false := decide_eq_false (by omega)
    have e57le : decide (x ≤ 57) = true := decide_eq_true (by omega)
    have e33ge : decide (33 ≤ x) = false := decide_eq_false (by omega)
    have e126le : decide (x ≤ 126) = true := decide_eq_true (by omega)
    have e160lt : decide (x < 160) = true := decide_eq_true (by omega)
    have hsg : rSign x = true := decide_eq_true (by omega)
    have HL := Lib.hid (show rClass x = 0 by unfold rClass; rw [hsg]; repeat (first | omega | rw [if_neg (by first | decide | omega)] | rw [if_pos (by omega)]))
    have HS := Lib.hid (rsign_any x w)
    rw [hsg] at HS
    clear hI hsg
    go_enter Tryz.func85, Tryz.ntmps85
    go_wp2_with fail
    refine HS.out.mono ?_
    rintro e w1 ⟨rfl, rfl⟩
    go_wp2_with fail
    go_ret
    exact ⟨by rw [HL.out]; rfl, rfl⟩
  · have e32eq : (x == 32) = false := by simp; omega
    have e9eq : (x == 9) = false := by simp; omega
    have e10eq : (x == 10) = false := by simp; omega
    have e13eq : (x == 13) = false := by simp; omega
    have e97ge : decide (97 ≤ x) = false := decide_eq_false (by omega)
    have e122le : decide (x ≤ 122) = true := decide_eq_true (by omega)
    have e65ge : decide (65 ≤ x) = false := decide_eq_false (by omega)
    have e90le : decide (x ≤ 90) = true := decide_eq_true (by omega)
    have e48ge : decide (48 ≤ x) = false := decide_eq_false (by omega)
    have e57le : decide (x ≤ 57) = true := decide_eq_true (by omega)
    have e33ge : decide (33 ≤ x) = false := decide_eq_false (by omega)
    have e126le : decide (x ≤ 126) = true := decide_eq_true (by omega)
    have e160lt : decide (x < 160) = true := decide_eq_true (by omega)
    have hsg : rSign x = true := decide_eq_true (by omega)
    have HL := Lib.hid (show rClass x = 4 by unfold rClass; rw [hsg]; repeat (first | omega | rw [if_neg (by first | decide | omega)] | rw [if_pos (by omega)]))
    have HS := Lib.hid (rsign_any x w)
    rw [hsg] at HS
    clear hI hsg
    go_enter Tryz.func85, Tryz.ntmps85
    go_wp2_with fail
    refine HS.out.mono ?_
    rintro e w1 ⟨rfl, rfl⟩
    go_wp2_with fail
    go_ret
    exact ⟨by rw [HL.out]; rfl, rfl⟩
  · have e32eq : (x == 32) = true := by simp; omega
    have e9eq : (x == 9) = false := by simp; omega
    have e10eq : (x == 10) = false := by simp; omega
    have e13eq : (x == 13) = false := by simp; omega
    have e97ge : decide (97 ≤ x) = false := decide_eq_false (by omega)
    have e122le : decide (x ≤ 122) = true := decide_eq_true (by omega)
    have e65ge : decide (65 ≤ x) = false := decide_eq_false (by omega)
    have e90le : decide (x ≤ 90) = true := decide_eq_true (by omega)
    have e48ge : decide (48 ≤ x) = false := decide_eq_false (by omega)
    have e57le : decide (x ≤ 57) = true := decide_eq_true (by omega)
    have e33ge : decide (33 ≤ x) = false := decide_eq_false (by omega)
    have e126le : decide (x ≤ 126) = true := decide_eq_true (by omega)
    have e160lt : decide (x < 160) = true := decide_eq_true (by omega)
    have hsg : rSign x = true := decide_eq_true (by omega)
    have HL := Lib.hid (show rClass x = 0 by unfold rClass; rw [hsg]; repeat (first | omega | rw [if_neg (by first | decide | omega)] | rw [if_pos (by omega)]))
    have HS := Lib.hid (rsign_any x w)
    rw [hsg] at HS
    clear hI hsg
    go_enter Tryz.func85, Tryz.ntmps85
    go_wp2_with fail
    refine HS.out.mono ?_
    rintro e w1 ⟨rfl, rfl⟩
    go_wp2_with fail
    go_ret
    exact ⟨by rw [HL.out]; rfl, rfl⟩
  · have e32eq : (x == 32) = false := by simp; omega
    have e9eq : (x == 9) = false := by simp; omega
    have e10eq : (x == 10) = false := by simp; omega
    have e13eq : (x == 13) = false := by simp; omega
    have e97ge : decide (97 ≤ x) = false := decide_eq_false (by omega)
    have e122le : decide (x ≤ 122) = true := decide_eq_true (by omega)
    have e65ge : decide (65 ≤ x) = false := decide_eq_false (by omega)
    have e90le : decide (x ≤ 90) = true := decide_eq_true (by omega)
    have e48ge : decide (48 ≤ x) = false := decide_eq_false (by omega)
    have e57le : decide (x ≤ 57) = true := decide_eq_true (by omega)
    have e33ge : decide (33 ≤ x) = true := decide_eq_true (by omega)
    have e126le : decide (x ≤ 126) = true := decide_eq_true (by omega)
    have e160lt : decide (x < 160) = true := decide_eq_true (by omega)
    have hsg : rSign x = true := decide_eq_true (by omega)
    have HL := Lib.hid (show rClass x = 3 by unfold rClass; rw [hsg]; repeat (first | omega | rw [if_neg (by first | decide | omega)] | rw [if_pos (by omega)]))
    have HS := Lib.hid (rsign_any x w)
    rw [hsg] at HS
    clear hI hsg
    go_enter Tryz.func85, Tryz.ntmps85
    go_wp2_with fail
    refine HS.out.mono ?_
    rintro e w1 ⟨rfl, rfl⟩
    go_wp2_with fail
    go_ret
    exact ⟨by rw [HL.out]; rfl, rfl⟩
  · have e32eq : (x == 32) = false := by simp; omega
    have e9eq : (x == 9) = false := by simp; omega
    have e10eq : (x == 10) = false := by simp; omega
    have e13eq : (x == 13) = false := by simp; omega
    have e97ge : decide (97 ≤ x) = false := decide_eq_false (by omega)
    have e122le : decide (x ≤ 122) = true := decide_eq_true (by omega)
    have e65ge : decide (65 ≤ x) = false := decide_eq_false (by omega)
    have e90le : decide (x ≤ 90) = true := decide_eq_true (by omega)
    have e48ge : decide (48 ≤ x) = true := decide_eq_true (by omega)
    have e57le : decide (x ≤ 57) = true := decide_eq_true (by omega)
    have e33ge : decide (33 ≤ x) = true := decide_eq_true (by omega)
    have e126le : decide (x ≤ 126) = true := decide_eq_true (by omega)
    have e160lt : decide (x < 160) = true := decide_eq_true (by omega)
    have hsg : rSign x = true := decide_eq_true (by omega)
    have HL := Lib.hid (show rClass x = 2 by unfold rClass; rw [hsg]; repeat (first | omega | rw [if_neg (by first | decide | omega)] | rw [if_pos (by omega)]))
    have HS := Lib.hid (rsign_any x w)
    rw [hsg] at HS
    clear hI hsg
    go_enter Tryz.func85, Tryz.ntmps85
    go_wp2_with fail
    refine HS.out.mono ?_
    rintro e w1 ⟨rfl, rfl⟩
    go_wp2_with fail
    go_ret
    exact ⟨by rw [HL.out]; rfl, rfl⟩
  · have e32eq : (x == 32) = false := by simp; omega
    have e9eq : (x == 9) = false := by simp; omega
    have e10eq : (x == 10) = false := by simp; omega
    have e13eq : (x == 13) = false := by simp; omega
    have e97ge : decide (97 ≤ x) = false := decide_eq_false (by omega)
    have e122le : decide (x ≤ 122) = true := decide_eq_true (by omega)
    have e65ge : decide (65 ≤ x) = false := decide_eq_false (by omega)
    have e90le : decide (x ≤ 90) = true := decide_eq_true (by omega)
    have e48ge : decide (48 ≤ x) = true := decide_eq_true (by omega)
    have e57le : decide (x ≤ 57) = false := decide_eq_false (by omega)
    have e33ge : decide (33 ≤ x) = true := decide_eq_true (by omega)
    have e126le : decide (x ≤ 126) = true := decide_eq_true (by omega)
    have e160lt : decide (x < 160) = true := decide_eq_true (by omega)
    have hsg : rSign x = true := decide_eq_true (by omega)
    have HL := Lib.hid (show rClass x = 3 by unfold rClass; rw [hsg]; repeat (first | omega | rw [if_neg (by first | decide | omega)] | rw [if_pos (by omega)]))
    have HS := Lib.hid (rsign_any x w)
    rw [hsg] at HS
    clear hI hsg
    go_enter Tryz.func85, Tryz.ntmps85
    go_wp2_with fail
    refine HS.out.mono ?_
    rintro e w1 ⟨rfl, rfl⟩
    go_wp2_with fail
    go_ret
    exact ⟨by rw [HL.out]; rfl, rfl⟩
  · have e32eq : (x == 32) = false := by simp; omega
    have e9eq : (x == 9) = false := by simp; omega
    have e10eq : (x == 10) = false := by simp; omega
    have e13eq : (x == 13) = false := by simp; omega
    have e97ge : decide (97 ≤ x) = false := decide_eq_false (by omega)
    have e122le : decide (x ≤ 122) = true := decide_eq_true (by omega)
    have e65ge : decide (65 ≤ x) = true := decide_eq_true (by omega)
    have e90le : decide (x ≤ 90) = true := decide_eq_true (by omega)
    have e48ge : decide (48 ≤ x) = true := decide_eq_true (by omega)
    have e57le : decide (x ≤ 57) = false := decide_eq_false (by omega)
    have e33ge : decide (33 ≤ x) = true := decide_eq_true (by omega)
    have e126le : decide (x ≤ 126) = true := decide_eq_true (by omega)
    have e160lt : decide (x < 160) = true := decide_eq_true (by omega)
    have hsg : rSign x = true := decide_eq_true (by omega)
    have HL := Lib.hid (show rClass x = 1 by unfold rClass; rw [hsg]; repeat (first | omega | rw [if_neg (by first | decide | omega)] | rw [if_pos (by omega)]))
    have HS := Lib.hid (rsign_any x w)
    rw [hsg] at HS
    clear hI hsg
    go_enter Tryz.func85, Tryz.ntmps85
    go_wp2_with fail
    refine HS.out.mono ?_
    rintro e w1 ⟨rfl, rfl⟩
    go_wp2_with fail
    go_ret
    exact ⟨by rw [HL.out]; rfl, rfl⟩
  · have e32eq : (x == 32) = false := by simp; omega
    have e9eq : (x == 9) = false := by simp; omega
    have e10eq : (x == 10) = false := by simp; omega
    have e13eq : (x == 13) = false := by simp; omega
    have e97ge : decide (97 ≤ x) = false := decide_eq_false (by omega)
    have e122le : decide (x ≤ 122) = true := decide_eq_true (by omega)
    have e65ge : decide (65 ≤ x) = true := decide_eq_true (by omega)
    have e90le : decide (x ≤ 90) = false := decide_eq_false (by omega)
    have e48ge : decide (48 ≤ x) = true := decide_eq_true (by omega)
    have e57le : decide (x ≤ 57) = false := decide_eq_false (by omega)
    have e33ge : decide (33 ≤ x) = true := decide_eq_true (by omega)
    have e126le : decide (x ≤ 126) = true := decide_eq_true (by omega)
    have e160lt : decide (x < 160) = true := decide_eq_true (by omega)
    have hsg : rSign x = true := decide_eq_true (by omega)
    have HL := Lib.hid (show rClass x = 3 by unfold rClass; rw [hsg]; repeat (first | omega | rw [if_neg (by first | decide | omega)] | rw [if_pos (by omega)]))
    have HS := Lib.hid (rsign_any x w)
    rw [hsg] at HS
    clear hI hsg
    go_enter Tryz.func85, Tryz.ntmps85
    go_wp2_with fail
    refine HS.out.mono ?_
    rintro e w1 ⟨rfl, rfl⟩
    go_wp2_with fail
    go_ret
    exact ⟨by rw [HL.out]; rfl, rfl⟩
  · have e32eq : (x == 32) = false := by simp; omega
    have e9eq : (x == 9) = false := by simp; omega
    have e10eq : (x == 10) = false := by simp; omega
    have e13eq : (x == 13) = false := by simp; omega
    have e97ge : decide (97 ≤ x) = true := decide_eq_true (by omega)
    have e122le : decide (x ≤ 122) = true := decide_eq_true (by omega)
    have e65ge : decide (65 ≤ x) = true := decide_eq_true (by omega)
    have e90le : decide (x ≤ 90) = false := decide_eq_false (by omega)
    have e48ge : decide (48 ≤ x) = true := decide_eq_true (by omega)
    have e57le : decide (x ≤ 57) = false := decide_eq_false (by omega)
    have e33ge : decide (33 ≤ x) = true := decide_eq_true (by omega)
    have e126le : decide (x ≤ 126) = true := decide_eq_true (by omega)
    have e160lt : decide (x < 160) = true := decide_eq_true (by omega)
    have hsg : rSign x = true := decide_eq_true (by omega)
    have HL := Lib.hid (show rClass x = 1 by unfold rClass; rw [hsg]; repeat (first | omega | rw [if_neg (by first | decide | omega)] | rw [if_pos (by omega)]))
    have HS := Lib.hid (rsign_any x w)
    rw [hsg] at HS
    clear hI hsg
    go_enter Tryz.func85, Tryz.ntmps85
    go_wp2_with fail
    refine HS.out.mono ?_
    rintro e w1 ⟨rfl, rfl⟩
    go_wp2_with fail
    go_ret
    exact ⟨by rw [HL.out]; rfl, rfl⟩
  · have e32eq : (x == 32) = false := by simp; omega
    have e9eq : (x == 9) = false := by simp; omega
    have e10eq : (x == 10) = false := by simp; omega
    have e13eq : (x == 13) = false := by simp; omega
    have e97ge : decide (97 ≤ x) = true := decide_eq_true (by omega)
    have e122le : decide (x ≤ 122) = false := decide_eq_false (by omega)
    have e65ge : decide (65 ≤ x) = true := decide_eq_true (by omega)
    have e90le : decide (x ≤ 90) = false := decide_eq_false (by omega)
    have e48ge : decide (48 ≤ x) = true := decide_eq_true (by omega)
    have e57le : decide (x ≤ 57) = false := decide_eq_false (by omega)
    have e33ge : decide (33 ≤ x) = true := decide_eq_true (by omega)
    have e126le : decide (x ≤ 126) = true := decide_eq_true (by omega)
    have e160lt : decide (x < 160) = true := decide_eq_true (by omega)
    have hsg : rSign x = true := decide_eq_true (by omega)
    have HL := Lib.hid (show rClass x = 3 by unfold rClass; rw [hsg]; repeat (first | omega | rw [if_neg (by first | decide | omega)] | rw [if_pos (by omega)]))
    have HS := Lib.hid (rsign_any x w)
    rw [hsg] at HS
    clear hI hsg
    go_enter Tryz.func85, Tryz.ntmps85
    go_wp2_with fail
    refine HS.out.mono ?_
    rintro e w1 ⟨rfl, rfl⟩
    go_wp2_with fail
    go_ret
    exact ⟨by rw [HL.out]; rfl, rfl⟩
  · have e32eq : (x == 32) = false := by simp; omega
    have e9eq : (x == 9) = false := by simp; omega
    have e10eq : (x == 10) = false := by simp; omega
    have e13eq : (x == 13) = false := by simp; omega
    have e97ge : decide (97 ≤ x) = true := decide_eq_true (by omega)
    have e122le : decide (x ≤ 122) = false := decide_eq_false (by omega)
    have e65ge : decide (65 ≤ x) = true := decide_eq_true (by omega)
    have e90le : decide (x ≤ 90) = false := decide_eq_false (by omega)
    have e48ge : decide (48 ≤ x) = true := decide_eq_true (by omega)
    have e57le : decide (x ≤ 57) = false := decide_eq_false (by omega)
    have e33ge : decide (33 ≤ x) = true := decide_eq_true (by omega)
    have e126le : decide (x ≤ 126) = false := decide_eq_false (by omega)
    have e160lt : decide (x < 160) = true := decide_eq_true (by omega)
    have hsg : rSign x = true := decide_eq_true (by omega)
    have HL := Lib.hid (show rClass x = 4 by unfold rClass; rw [hsg]; repeat (first | omega | rw [if_neg (by first | decide | omega)] | rw [if_pos (by omega)]))
    have HS := Lib.hid (rsign_any x w)
    rw [hsg] at HS
    clear hI hsg
    go_enter Tryz.func85, Tryz.ntmps85
    go_wp2_with fail
    refine HS.out.mono ?_
    rintro e w1 ⟨rfl, rfl⟩
    go_wp2_with fail
    go_ret
    exact ⟨by rw [HL.out]; rfl, rfl⟩
  · have e32eq : (x == 32) = false := by simp; omega
    have e9eq : (x == 9) = false := by simp; omega
    have e10eq : (x == 10) = false := by simp; omega
    have e13eq : (x == 13) = false := by simp; omega
    have e97ge : decide (97 ≤ x) = true := decide_eq_true (by omega)
    have e122le : decide (x ≤ 122) = false := decide_eq_false (by omega)
    have e65ge : decide (65 ≤ x) = true := decide_eq_true (by omega)
    have e90le : decide (x ≤ 90) = false := decide_eq_false (by omega)
    have e48ge : decide (48 ≤ x) = true := decide_eq_true (by omega)
    have e57le : decide (x ≤ 57) = false := decide_eq_false (by omega)
    have e33ge : decide (33 ≤ x) = true := decide_eq_true (by omega)
    have e126le : decide (x ≤ 126) = false := decide_eq_false (by omega)
    have e160lt : decide (x < 160) = false := decide_eq_false (by omega)
    have hsg : rSign x = true := decide_eq_true (by omega)
    have HL := Lib.hid (show rClass x = 5 by unfold rClass; rw [hsg]; repeat (first | omega | rw [if_neg (by first | decide | omega)] | rw [if_pos (by omega)]))
    have HS := Lib.hid (rsign_any x w)
    rw [hsg] at HS
    clear hI hsg
    go_enter Tryz.func85, Tryz.ntmps85
    go_wp2_with fail
    refine HS.out.mono ?_
    rintro e w1 ⟨rfl, rfl⟩
    go_wp2_with fail
    go_ret
    exact ⟨by rw [HL.out]; rfl, rfl⟩
  · have e32eq : (x == 32) = false := by simp; omega
    have e9eq : (x == 9) = false := by simp; omega
    have e10eq : (x == 10) = false := by simp; omega
    have e13eq : (x == 13) = false := by simp; omega
    have e97ge : decide (97 ≤ x) = true := decide_eq_true (by omega)
    have e122le : decide (x ≤ 122) = false := decide_eq_false (by omega)
    have e65ge : decide (65 ≤ x) = true := decide_eq_true (by omega)
    have e90le : decide (x ≤ 90) = false := decide_eq_false (by omega)
    have e48ge : decide (48 ≤ x) = true := decide_eq_true (by omega)
    have e57le : decide (x ≤ 57) = false := decide_eq_false (by omega)
    have e33ge : decide (33 ≤ x) = true := decide_eq_true (by omega)
    have e126le : decide (x ≤ 126) = false := decide_eq_false (by omega)
    have e160lt : decide (x < 160) = false := decide_eq_false (by omega)
    have hsg : rSign x = false := decide_eq_false (by omega)
    have HL := Lib.hid (show rClass x = 6 by unfold rClass; rw [hsg]; rfl)
    have HS := Lib.hid (rsign_any x w)
    rw [hsg] at HS
    clear hI hsg
    go_enter Tryz.func85, Tryz.ntmps85
    go_wp2_with fail
    refine HS.out.mono ?_
    rintro e w1 ⟨rfl, rfl⟩
    go_wp2_with fail
    go_ret
    exact ⟨by rw [HL.out]; rfl, rfl⟩
  · have e32eq : (x == 32) = false := by simp; omega
    have e9eq : (x == 9) = false := by simp; omega
    have e10eq : (x == 10) = false := by simp; omega
    have e13eq : (x == 13) = false := by simp; omega
    have e97ge : decide (97 ≤ x) = true := decide_eq_true (by omega)
    have e122le : decide (x ≤ 122) = false := decide_eq_false (by omega)
    have e65ge : decide (65 ≤ x) = true := decide_eq_true (by omega)
    have e90le : decide (x ≤ 90) = false := decide_eq_false (by omega)
    have e48ge : decide (48 ≤ x) = true := decide_eq_true (by omega)
    have e57le : decide (x ≤ 57) = false := decide_eq_false (by omega)
    have e33ge : decide (33 ≤ x) = true := decide_eq_true (by omega)
    have e126le : decide (x ≤ 126) = false := decide_eq_false (by omega)
    have e160lt : decide (x < 160) = false := decide_eq_false (by omega)
    have hsg : rSign x = true := decide_eq_true (by omega)
    have HL := Lib.hid (show rClass x = 5 by unfold rClass; rw [hsg]; repeat (first | omega | rw [if_neg (by first | decide | omega)] | rw [if_pos (by omega)]))
    have HS := Lib.hid (rsign_any x w)
    rw [hsg] at HS
    clear hI hsg
    go_enter Tryz.func85, Tryz.ntmps85
    go_wp2_with fail
    refine HS.out.mono ?_
    rintro e w1 ⟨rfl, rfl⟩
    go_wp2_with fail
    go_ret
    exact ⟨by rw [HL.out]; rfl, rfl⟩
  · have e32eq : (x == 32) = false := by simp; omega
    have e9eq : (x == 9) = false := by simp; omega
    have e10eq : (x == 10) = false := by simp; omega
    have e13eq : (x == 13) = false := by simp; omega
    have e97ge : decide (97 ≤ x) = true := decide_eq_true (by omega)
    have e122le : decide (x ≤ 122) = false := decide_eq_false (by omega)
    have e65ge : decide (65 ≤ x) = true := decide_eq_true (by omega)
    have e90le : decide (x ≤ 90) = false := decide_eq_false (by omega)
    have e48ge : decide (48 ≤ x) = true := decide_eq_true (by omega)
    have e57le : decide (x ≤ 57) = false := decide_eq_false (by omega)
    have e33ge : decide (33 ≤ x) = true := decide_eq_true (by omega)
    have e126le : decide (x ≤ 126) = false := decide_eq_false (by omega)
    have e160lt : decide (x < 160) = false := decide_eq_false (by omega)
    have hsg : rSign x = false := decide_eq_false (by omega)
    have HL := Lib.hid (show rClass x = 6 by unfold rClass; rw [hsg]; rfl)
    have HS := Lib.hid (rsign_any x w)
    rw [hsg] at HS
    clear hI hsg
    go_enter Tryz.func85, Tryz.ntmps85
    go_wp2_with fail
    refine HS.out.mono ?_
    rintro e w1 ⟨rfl, rfl⟩
    go_wp2_with fail
    go_ret
    exact ⟨by rw [HL.out]; rfl, rfl⟩

end Go.Proofs.YtflhmieeidnpgaaGreatDoor
