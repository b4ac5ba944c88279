/- Texts of the proof, one behind the other: Gq, Gt. -/
import Derived.Test.YtagchljgmjmlcaaGreatDoorXj
import Derived.Deep.CutBlock
import Derived.Deep.RegionLawGrows
import Derived.Deep.Cut
import Derived.Deep.CutRange
import Derived.WalkKit
import Derived.WalkLawsBesides
import Derived.WalkSpells
import Derived.Deep.QuietTactic
import Derived.BigRegion
import Derived.BigQuiet
import Derived.Lib.Hide
import Derived.Outline
import Derived.Deep.AppendLies
import Derived.Deep.RegionLaw
import Derived.Deep.RegionWith
import Derived.Deep.RegionHeld3
import Derived.Deep.LoopGhost
import Derived.Deep.DeepFit
import Derived.Laws.ResultCell
import Derived.Laws.RangeAny
import Derived.Deep.MidRow
import Derived.StillTailTactics
import Derived.OpenShut
namespace Go.Proofs.YtagchljgmjmlcaaGreatDoor
set_option linter.unusedVariables false
open Go.RowKit Go
set_option maxRecDepth 100000
set_option maxHeartbeats 40000000

def rSign (x : Int) : Bool := decide (0 ≤ x ∧ x ≤ 1114111 ∧ (x < 55296 ∨ 57343 < x))
def rBytesLen (x : Int) : Nat := if x < 128 then 1 else if x < 2048 then 2 else if x < 65536 then 3 else 4
def rClass (x : Int) : Int :=
 if rSign x = false then 6 else if x = 32 ∨ x = 9 ∨ x = 10 ∨ x = 13 then 0
 else if (97 ≤ x ∧ x ≤ 122) ∨ (65 ≤ x ∧ x ≤ 90) then 1 else if 48 ≤ x ∧ x ≤ 57 then 2
 else if 33 ≤ x ∧ x ≤ 126 then 3 else if x < 160 then 4 else 5

theorem rsign_any (x : Int) (w : World) : Calls Tryz.prog 58 #[.int .i64 x] w fun e w' => e = .returned (.bool (rSign x)) ∧ w = w' := by
 rcases (show x ≤ -1 ∨ (0 ≤ x ∧ x ≤ 55295) ∨ (55296 ≤ x ∧ x ≤ 57343) ∨ (57344 ≤ x ∧ x ≤ 1114111) ∨ 1114112 ≤ x by omega) with hI | hI | hI | hI | hI
 · have e0ge : decide (0 ≤ x) = false := decide_eq_false (by omega)
   have e1114111le : decide (x ≤ 1114111) = true := decide_eq_true (by omega)
   have e55296lt : decide (x < 55296) = true := decide_eq_true (by omega)
   have e57343gt : decide (57343 < x) = false := decide_eq_false (by omega)
   have HL := Lib.hid (show rSign x = false from decide_eq_false (by omega))
   clear hI
   go_enter Tryz.func58, Tryz.ntmps58
   go_wp2_with fail
   go_ret
   exact ⟨by rw [HL.out]; rfl, rfl⟩
 · have e0ge : decide (0 ≤ x) = true := decide_eq_true (by omega)
   have e1114111le : decide (x ≤ 1114111) = true := decide_eq_true (by omega)
   have e55296lt : decide (x < 55296) = true := decide_eq_true (by omega)
   have e57343gt : decide (57343 < x) = false := decide_eq_false (by omega)
   have HL := Lib.hid (show rSign x = true from decide_eq_true (by omega))
   clear hI
   go_enter Tryz.func58, Tryz.ntmps58
   go_wp2_with fail
   go_ret
   exact ⟨by rw [HL.out]; rfl, rfl⟩
 · have e0ge : decide (0 ≤ x) = true := decide_eq_true (by omega)
   have e1114111le : decide (x ≤ 1114111) = true := decide_eq_true (by omega)
   have e55296lt : decide (x < 55296) = false := decide_eq_false (by omega)
   have e57343gt : decide (57343 < x) = false := decide_eq_false (by omega)
   have HL := Lib.hid (show rSign x = false from decide_eq_false (by omega))
   clear hI
   go_enter Tryz.func58, Tryz.ntmps58
   go_wp2_with fail
   go_ret
   exact ⟨by rw [HL.out]; rfl, rfl⟩
 · have e0ge : decide (0 ≤ x) = true := decide_eq_true (by omega)
   have e1114111le : decide (x ≤ 1114111) = true := decide_eq_true (by omega)
   have e55296lt : decide (x < 55296) = false := decide_eq_false (by omega)
   have e57343gt : decide (57343 < x) = true := decide_eq_true (by omega)
   have HL := Lib.hid (show rSign x = true from decide_eq_true (by omega))
   clear hI
   go_enter Tryz.func58, Tryz.ntmps58
   go_wp2_with fail
   go_ret
   exact ⟨by rw [HL.out]; rfl, rfl⟩
 · have e0ge : decide (0 ≤ x) = true := decide_eq_true (by omega)
   have e1114111le : decide (x ≤ 1114111) = false := decide_eq_false (by omega)
   have e55296lt : decide (x < 55296) = false := decide_eq_false (by omega)
   have e57343gt : decide (57343 < x) = true := decide_eq_true (by omega)
   have HL := Lib.hid (show rSign x = false from decide_eq_false (by omega))
   clear hI
   go_enter Tryz.func58, Tryz.ntmps58
   go_wp2_with fail
   go_ret
   exact ⟨by rw [HL.out]; rfl, rfl⟩
theorem rbytes_any (x : Int) (w : World) : Calls Tryz.prog 59 #[.int .i64 x] w fun e w' => ∃ A c, e = .returned (.slice A (rBytesLen x) c) ∧ Fr (fun _ => False) w w' := by
 rcases (show x ≤ 127 ∨ (128 ≤ x ∧ x ≤ 2047) ∨ (2048 ≤ x ∧ x ≤ 65535) ∨ 65536 ≤ x by omega) with hI | hI | hI | hI
 · have e128lt : decide (x < 128) = true := decide_eq_true (by omega)
   have e2048lt : decide (x < 2048) = true := decide_eq_true (by omega)
   have e65536lt : decide (x < 65536) = true := decide_eq_true (by omega)
   have HL := Lib.hid (show rBytesLen x = 1 by unfold rBytesLen; split <;> (try omega) <;> (try split) <;> (try omega) <;> (try split) <;> omega)
   clear hI
   go_enter Tryz.func59, Tryz.ntmps59
   go_wp2_with fail
   go_ret
   exact ⟨_, _, by rw [HL.out]; rfl, (Fr.refl _ _).alloc _⟩
 · have e128lt : decide (x < 128) = false := decide_eq_false (by omega)
   have e2048lt : decide (x < 2048) = true := decide_eq_true (by omega)
   have e65536lt : decide (x < 65536) = true := decide_eq_true (by omega)
   have HL := Lib.hid (show rBytesLen x = 2 by unfold rBytesLen; split <;> (try omega) <;> (try split) <;> (try omega) <;> (try split) <;> omega)
   clear hI
   go_enter Tryz.func59, Tryz.ntmps59
   go_wp2_with fail
   go_ret
   exact ⟨_, _, by rw [HL.out]; rfl, (Fr.refl _ _).alloc _⟩
 · have e128lt : decide (x < 128) = false := decide_eq_false (by omega)
   have e2048lt : decide (x < 2048) = false := decide_eq_false (by omega)
   have e65536lt : decide (x < 65536) = true := decide_eq_true (by omega)
   have HL := Lib.hid (show rBytesLen x = 3 by unfold rBytesLen; split <;> (try omega) <;> (try split) <;> (try omega) <;> (try split) <;> omega)
   clear hI
   go_enter Tryz.func59, Tryz.ntmps59
   go_wp2_with fail
   go_ret
   exact ⟨_, _, by rw [HL.out]; rfl, (Fr.refl _ _).alloc _⟩
 · have e128lt : decide (x < 128) = false := decide_eq_false (by omega)
   have e2048lt : decide (x < 2048) = false := decide_eq_false (by omega)
   have e65536lt : decide (x < 65536) = false := decide_eq_false (by omega)
   have HL := Lib.hid (show rBytesLen x = 4 by unfold rBytesLen; split <;> (try omega) <;> (try split) <;> (try omega) <;> (try split) <;> omega)
   clear hI
   go_enter Tryz.func59, Tryz.ntmps59
   go_wp2_with fail
   go_ret
   exact ⟨_, _, by rw [HL.out]; rfl, (Fr.refl _ _).alloc _⟩
theorem rclass_any (x : Int) (w : World) : Calls Tryz.prog 32 #[.int .i64 x] w fun e w' => e = .returned (.int .i64 (rClass x)) ∧ w = w' := by
 rcases (show x ≤ -1 ∨ (0 ≤ x ∧ x ≤ 8) ∨ (9 ≤ x ∧ x ≤ 9) ∨ (10 ≤ x ∧ x ≤ 10) ∨ (11 ≤ x ∧ x ≤ 12) ∨ (13 ≤ x ∧ x ≤ 13) ∨ (14 ≤ x ∧ x ≤ 31) ∨ (32 ≤ x ∧ x ≤ 32) ∨ (33 ≤ x ∧ x ≤ 47) ∨ (48 ≤ x ∧ x ≤ 57) ∨ (58 ≤ x ∧ x ≤ 64) ∨ (65 ≤ x ∧ x ≤ 90) ∨ (91 ≤ x ∧ x ≤ 96) ∨ (97 ≤ x ∧ x ≤ 122) ∨ (123 ≤ x ∧ x ≤ 126) ∨ (127 ≤ x ∧ x ≤ 159) ∨ (160 ≤ x ∧ x ≤ 55295) ∨ (55296 ≤ x ∧ x ≤ 57343) ∨ (57344 ≤ x ∧ x ≤ 1114111) ∨ 1114112 ≤ x by omega) with hI | hI | hI | hI | hI | hI | hI | hI | hI | hI | hI | hI | hI | hI | hI | hI | hI | hI | hI | hI
 · have e32eq : (x == 32) = false := by simp; omega
   have e9eq : (x == 9) = false := by simp; omega
   have e10eq : (x == 10) = false := by simp; omega
   have e13eq : (x == 13) = false := by simp; omega
   have e97ge : decide (97 ≤ x) = false := decide_eq_false (by omega)
   have e122le : decide (x ≤ 122) = true := decide_eq_true (by omega)
   have e65ge : decide (65 ≤ x) = false := decide_eq_false (by omega)
   have e90le : decide (x ≤ 90) = true := decide_eq_true (by omega)
   have e48ge : decide (48 ≤ x) = false := decide_eq_false (by omega)
   have e57le : decide (x ≤ 57) = true := decide_eq_true (by omega)
   have e33ge : decide (33 ≤ x) = false := decide_eq_false (by omega)
   have e126le : decide (x ≤ 126) = true := decide_eq_true (by omega)
   have e160lt : decide (x < 160) = true := decide_eq_true (by omega)
   have hsg : rSign x = false := decide_eq_false (by omega)
   have HL := Lib.hid (show rClass x = 6 by unfold rClass; rw [hsg]; rfl)
   have HS := Lib.hid (rsign_any x w)
   rw [hsg] at HS
   clear hI hsg
   go_enter Tryz.func32, Tryz.ntmps32
   go_wp2_with fail
   refine HS.out.mono ?_
   rintro e w1 ⟨rfl, rfl⟩
   go_wp2_with fail
   go_ret
   exact ⟨by rw [HL.out]; rfl, rfl⟩
 · have e32eq : (x == 32) = false := by simp; omega
   have e9eq : (x == 9) = false := by simp; omega
   have e10eq : (x == 10) = false := by simp; omega
   have e13eq : (x == 13) = false := by simp; omega
   have e97ge : decide (97 ≤ x) = false := decide_eq_false (by omega)
   have e122le : decide (x ≤ 122) = true := decide_eq_true (by omega)
   have e65ge : decide (65 ≤ x) = false := decide_eq_false (by omega)
   have e90le : decide (x ≤ 90) = true := decide_eq_true (by omega)
   have e48ge : decide (48 ≤ x) = false := decide_eq_false (by omega)
   have e57le : decide (x ≤ 57) = true := decide_eq_true (by omega)
   have e33ge : decide (33 ≤ x) = false := decide_eq_false (by omega)
   have e126le : decide (x ≤ 126) = true := decide_eq_true (by omega)
   have e160lt : decide (x < 160) = true := decide_eq_true (by omega)
   have hsg : rSign x = true := decide_eq_true (by omega)
   have HL := Lib.hid (show rClass x = 4 by unfold rClass; rw [hsg]; repeat (first | omega | rw [if_neg (by first | decide | omega)] | rw [if_pos (by omega)]))
   have HS := Lib.hid (rsign_any x w)
   rw [hsg] at HS
   clear hI hsg
   go_enter Tryz.func32, Tryz.ntmps32
   go_wp2_with fail
   refine HS.out.mono ?_
   rintro e w1 ⟨rfl, rfl⟩
   go_wp2_with fail
   go_ret
   exact ⟨by rw [HL.out]; rfl, rfl⟩
 · have e32eq : (x == 32) = false := by simp; omega
   have e9eq : (x == 9) = true := by simp; omega
   have e10eq : (x == 10) = false := by simp; omega
   have e13eq : (x == 13) = false := by simp; omega
   have e97ge : decide (97 ≤ x) = false := decide_eq_false (by omega)
   have e122le : decide (x ≤ 122) = true := decide_eq_true (by omega)
   have e65ge : decide (65 ≤ x) = false := decide_eq_false (by omega)
   have e90le : decide (x ≤ 90) = true := decide_eq_true (by omega)
   have e48ge : decide (48 ≤ x) = false := decide_eq_false (by omega)
   have e57le : decide (x ≤ 57) = true := decide_eq_true (by omega)
   have e33ge : decide (33 ≤ x) = false := decide_eq_false (by omega)
   have e126le : decide (x ≤ 126) = true := decide_eq_true (by omega)
   have e160lt : decide (x < 160) = true := decide_eq_true (by omega)
   have hsg : rSign x = true := decide_eq_true (by omega)
   have HL := Lib.hid (show rClass x = 0 by unfold rClass; rw [hsg]; repeat (first | omega | rw [if_neg (by first | decide | omega)] | rw [if_pos (by omega)]))
   have HS := Lib.hid (rsign_any x w)
   rw [hsg] at HS
   clear hI hsg
   go_enter Tryz.func32, Tryz.ntmps32
   go_wp2_with fail
   refine HS.out.mono ?_
   rintro e w1 ⟨rfl, rfl⟩
   go_wp2_with fail
   go_ret
   exact ⟨by rw [HL.out]; rfl, rfl⟩
 · have e32eq : (x == 32) = false := by simp; omega
   have e9eq : (x == 9) = false := by simp; omega
   have e10eq : (x == 10) = true := by simp; omega
   have e13eq : (x == 13) = false := by simp; omega
   have e97ge : decide (97 ≤ x) = false := decide_eq_false (by omega)
   have e122le : decide (x ≤ 122) = true := decide_eq_true (by omega)
   have e65ge : decide (65 ≤ x) = false := decide_eq_false (by omega)
   have e90le : decide (x ≤ 90) = true := decide_eq_true (by omega)
   have e48ge : decide (48 ≤ x) = false := decide_eq_false (by omega)
   have e57le : decide (x ≤ 57) = true := decide_eq_true (by omega)
   have e33ge : decide (33 ≤ x) = false := decide_eq_false (by omega)
   have e126le : decide (x ≤ 126) = true := decide_eq_true (by omega)
   have e160lt : decide (x < 160) = true := decide_eq_true (by omega)
   have hsg : rSign x = true := decide_eq_true (by omega)
   have HL := Lib.hid (show rClass x = 0 by unfold rClass; rw [hsg]; repeat (first | omega | rw [if_neg (by first | decide | omega)] | rw [if_pos (by omega)]))
   have HS := Lib.hid (rsign_any x w)
   rw [hsg] at HS
   clear hI hsg
   go_enter Tryz.func32, Tryz.ntmps32
   go_wp2_with fail
   refine HS.out.mono ?_
   rintro e w1 ⟨rfl, rfl⟩
   go_wp2_with fail
   go_ret
   exact ⟨by rw [HL.out]; rfl, rfl⟩
 · have e32eq : (x == 32) = false := by simp; omega
   have e9eq : (x == 9) = false := by simp; omega
   have e10eq : (x == 10) = false := by simp; omega
   have e13eq : (x == 13) = false := by simp; omega
   have e97ge : decide (97 ≤ x) = false := decide_eq_false (by omega)
   have e122le : decide (x ≤ 122) = true := decide_eq_true (by omega)
   have e65ge : decide (65 ≤ x) = false := decide_eq_false (by omega)
   have e90le : decide (x ≤ 90) = true := decide_eq_true (by omega)
   have e48ge : decide (48 ≤ x) = false := decide_eq_false (by omega)
   have e57le : decide (x ≤ 57) = true := decide_eq_true (by omega)
   have e33ge : decide (33 ≤ x) = false := decide_eq_false (by omega)
   have e126le : decide (x ≤ 126) = true := decide_eq_true (by omega)
   have e160lt : decide (x < 160) = true := decide_eq_true (by omega)
   have hsg : rSign x = true := decide_eq_true (by omega)
   have HL := Lib.hid (show rClass x = 4 by unfold rClass; rw [hsg]; repeat (first | omega | rw [if_neg (by first | decide | omega)] | rw [if_pos (by omega)]))
   have HS := Lib.hid (rsign_any x w)
   rw [hsg] at HS
   clear hI hsg
   go_enter Tryz.func32, Tryz.ntmps32
   go_wp2_with fail
   refine HS.out.mono ?_
   rintro e w1 ⟨rfl, rfl⟩
   go_wp2_with fail
   go_ret
   exact ⟨by rw [HL.out]; rfl, rfl⟩
 · have e32eq : (x == 32) = false := by simp; omega
   have e9eq : (x == 9) = false := by simp; omega
   have e10eq : (x == 10) = false := by simp; omega
   have e13eq : (x == 13) = true := by simp; omega
   have e97ge : decide (97 ≤ x) = false := decide_eq_false (by omega)
   have e122le : decide (x ≤ 122) = true := decide_eq_true (by omega)
   have e65ge : decide (65 ≤ x) = false := decide_eq_false (by omega)
   have e90le : decide (x ≤ 90) = true := decide_eq_true (by omega)
   have e48ge : decide (48 ≤ x) = false := decide_eq_false (by omega)
   have e57le : decide (x ≤ 57) = true := decide_eq_true (by omega)
   have e33ge : decide (33 ≤ x) = false := decide_eq_false (by omega)
   have e126le : decide (x ≤ 126) = true := decide_eq_true (by omega)
   have e160lt : decide (x < 160) = true := decide_eq_true (by omega)
   have hsg : rSign x = true := decide_eq_true (by omega)
   have HL := Lib.hid (show rClass x = 0 by unfold rClass; rw [hsg]; repeat (first | omega | rw [if_neg (by first | decide | omega)] | rw [if_pos (by omega)]))
   have HS := Lib.hid (rsign_any x w)
   rw [hsg] at HS
   clear hI hsg
   go_enter Tryz.func32, Tryz.ntmps32
   go_wp2_with fail
   refine HS.out.mono ?_
   rintro e w1 ⟨rfl, rfl⟩
   go_wp2_with fail
   go_ret
   exact ⟨by rw [HL.out]; rfl, rfl⟩
 · have e32eq : (x == 32) = false := by simp; omega
   have e9eq : (x == 9) = false := by simp; omega
   have e10eq : (x == 10) = false := by simp; omega
   have e13eq : (x == 13) = false := by simp; omega
   have e97ge : decide (97 ≤ x) = false := decide_eq_false (by omega)
   have e122le : decide (x ≤ 122) = true := decide_eq_true (by omega)
   have e65ge : decide (65 ≤ x) = false := decide_eq_false (by omega)
   have e90le : decide (x ≤ 90) = true := decide_eq_true (by omega)
   have e48ge : decide (48 ≤ x) = false := decide_eq_false (by omega)
   have e57le : decide (x ≤ 57) = true := decide_eq_true (by omega)
   have e33ge : decide (33 ≤ x) = false := decide_eq_false (by omega)
   have e126le : decide (x ≤ 126) = true := decide_eq_true (by omega)
   have e160lt : decide (x < 160) = true := decide_eq_true (by omega)
   have hsg : rSign x = true := decide_eq_true (by omega)
   have HL := Lib.hid (show rClass x = 4 by unfold rClass; rw [hsg]; repeat (first | omega | rw [if_neg (by first | decide | omega)] | rw [if_pos (by omega)]))
   have HS := Lib.hid (rsign_any x w)
   rw [hsg] at HS
   clear hI hsg
   go_enter Tryz.func32, Tryz.ntmps32
   go_wp2_with fail
   refine HS.out.mono ?_
   rintro e w1 ⟨rfl, rfl⟩
   go_wp2_with fail
   go_ret
   exact ⟨by rw [HL.out]; rfl, rfl⟩
 · have e32eq : (x == 32) = true := by simp; omega
   have e9eq : (x == 9) = false := by simp; omega
   have e10eq : (x == 10) = false := by simp; omega
   have e13eq : (x == 13) = false := by simp; omega
   have e97ge : decide (97 ≤ x) = false := decide_eq_false (by omega)
   have e122le : decide (x ≤ 122) = true := decide_eq_true (by omega)
   have e65ge : decide (65 ≤ x) = false := decide_eq_false (by omega)
   have e90le : decide (x ≤ 90) = true := decide_eq_true (by omega)
   have e48ge : decide (48 ≤ x) = false := decide_eq_false (by omega)
   have e57le : decide (x ≤ 57) = true := decide_eq_true (by omega)
   have e33ge : decide (33 ≤ x) = false := decide_eq_false (by omega)
   have e126le : decide (x ≤ 126) = true := decide_eq_true (by omega)
   have e160lt : decide (x < 160) = true := decide_eq_true (by omega)
   have hsg : rSign x = true := decide_eq_true (by omega)
   have HL := Lib.hid (show rClass x = 0 by unfold rClass; rw [hsg]; repeat (first | omega | rw [if_neg (by first | decide | omega)] | rw [if_pos (by omega)]))
   have HS := Lib.hid (rsign_any x w)
   rw [hsg] at HS
   clear hI hsg
   go_enter Tryz.func32, Tryz.ntmps32
   go_wp2_with fail
   refine HS.out.mono ?_
   rintro e w1 ⟨rfl, rfl⟩
   go_wp2_with fail
   go_ret
   exact ⟨by rw [HL.out]; rfl, rfl⟩
 · have e32eq : (x == 32) = false := by simp; omega
   have e9eq : (x == 9) = false := by simp; omega
   have e10eq : (x == 10) = false := by simp; omega
   have e13eq : (x == 13) = false := by simp; omega
   have e97ge : decide (97 ≤ x) = false := decide_eq_false (by omega)
   have e122le : decide (x ≤ 122) = true := decide_eq_true (by omega)
   have e65ge : decide (65 ≤ x) = false := decide_eq_false (by omega)
   have e90le : decide (x ≤ 90) = true := decide_eq_true (by omega)
   have e48ge : decide (48 ≤ x) = false := decide_eq_false (by omega)
   have e57le : decide (x ≤ 57) = true := decide_eq_true (by omega)
   have e33ge : decide (33 ≤ x) = true := decide_eq_true (by omega)
   have e126le : decide (x ≤ 126) = true := decide_eq_true (by omega)
   have e160lt : decide (x < 160) = true := decide_eq_true (by omega)
   have hsg : rSign x = true := decide_eq_true (by omega)
   have HL := Lib.hid (show rClass x = 3 by unfold rClass; rw [hsg]; repeat (first | omega | rw [if_neg (by first | decide | omega)] | rw [if_pos (by omega)]))
   have HS := Lib.hid (rsign_any x w)
   rw [hsg] at HS
   clear hI hsg
   go_enter Tryz.func32, Tryz.ntmps32
   go_wp2_with fail
   refine HS.out.mono ?_
   rintro e w1 ⟨rfl, rfl⟩
   go_wp2_with fail
   go_ret
   exact ⟨by rw [HL.out]; rfl, rfl⟩
 · have e32eq : (x == 32) = false := by simp; omega
   have e9eq : (x == 9) = false := by simp; omega
   have e10eq : (x == 10) = false := by simp; omega
   have e13eq : (x == 13) = false := by simp; omega
   have e97ge : decide (97 ≤ x) = false := decide_eq_false (by omega)
   have e122le : decide (x ≤ 122) = true := decide_eq_true (by omega)
   have e65ge : decide (65 ≤ x) = false := decide_eq_false (by omega)
   have e90le : decide (x ≤ 90) = true := decide_eq_true (by omega)
   have e48ge : decide (48 ≤ x) = true := decide_eq_true (by omega)
   have e57le : decide (x ≤ 57) = true := decide_eq_true (by omega)
   have e33ge : decide (33 ≤ x) = true := decide_eq_true (by omega)
   have e126le : decide (x ≤ 126) = true := decide_eq_true (by omega)
   have e160lt : decide (x < 160) = true := decide_eq_true (by omega)
   have hsg : rSign x = true := decide_eq_true (by omega)
   have HL := Lib.hid (show rClass x = 2 by unfold rClass; rw [hsg]; repeat (first | omega | rw [if_neg (by first | decide | omega)] | rw [if_pos (by omega)]))
   have HS := Lib.hid (rsign_any x w)
   rw [hsg] at HS
   clear hI hsg
   go_enter Tryz.func32, Tryz.ntmps32
   go_wp2_with fail
   refine HS.out.mono ?_
   rintro e w1 ⟨rfl, rfl⟩
   go_wp2_with fail
   go_ret
   exact ⟨by rw [HL.out]; rfl, rfl⟩
 · have e32eq : (x == 32) = false := by simp; omega
   have e9eq : (x == 9) = false := by simp; omega
   have e10eq : (x == 10) = false := by simp; omega
   have e13eq : (x == 13) = false := by simp; omega
   have e97ge : decide (97 ≤ x) = false := decide_eq_false (by omega)
   have e122le : decide (x ≤ 122) = true := decide_eq_true (by omega)
   have e65ge : decide (65 ≤ x) = false := decide_eq_false (by omega)
   have e90le : decide (x ≤ 90) = true := decide_eq_true (by omega)
   have e48ge : decide (48 ≤ x) = true := decide_eq_true (by omega)
   have e57le : decide (x ≤ 57) = false := decide_eq_false (by omega)
   have e33ge : decide (33 ≤ x) = true := decide_eq_true (by omega)
   have e126le : decide (x ≤ 126) = true := decide_eq_true (by omega)
   have e160lt : decide (x < 160) = true := decide_eq_true (by omega)
   have hsg : rSign x = true := decide_eq_true (by omega)
   have HL := Lib.hid (show rClass x = 3 by unfold rClass; rw [hsg]; repeat (first | omega | rw [if_neg (by first | decide | omega)] | rw [if_pos (by omega)]))
   have HS := Lib.hid (rsign_any x w)
   rw [hsg] at HS
   clear hI hsg
   go_enter Tryz.func32, Tryz.ntmps32
   go_wp2_with fail
   refine HS.out.mono ?_
   rintro e w1 ⟨rfl, rfl⟩
   go_wp2_with fail
   go_ret
   exact ⟨by rw [HL.out]; rfl, rfl⟩
 · have e32eq : (x == 32) = false := by simp; omega
   have e9eq : (x == 9) = false := by simp; omega
   have e10eq : (x == 10) = false := by simp; omega
   have e13eq : (x == 13) = false := by simp; omega
   have e97ge : decide (97 ≤ x) = false := decide_eq_false (by omega)
   have e122le : decide (x ≤ 122) = true := decide_eq_true (by omega)
   have e65ge : decide (65 ≤ x) = true := decide_eq_true (by omega)
   have e90le : decide (x ≤ 90) = true := decide_eq_true (by omega)
   have e48ge : decide (48 ≤ x) = true := decide_eq_true (by omega)
   have e57le : decide (x ≤ 57) = false := decide_eq_false (by omega)
   have e33ge : decide (33 ≤ x) = true := decide_eq_true (by omega)
   have e126le : decide (x ≤ 126) = true := decide_eq_true (by omega)
   have e160lt : decide (x < 160) = true := decide_eq_true (by omega)
   have hsg : rSign x = true := decide_eq_true (by omega)
   have HL := Lib.hid (show rClass x = 1 by unfold rClass; rw [hsg]; repeat (first | omega | rw [if_neg (by first | decide | omega)] | rw [if_pos (by omega)]))
   have HS := Lib.hid (rsign_any x w)
   rw [hsg] at HS
   clear hI hsg
   go_enter Tryz.func32, Tryz.ntmps32
   go_wp2_with fail
   refine HS.out.mono ?_
   rintro e w1 ⟨rfl, rfl⟩
   go_wp2_with fail
   go_ret
   exact ⟨by rw [HL.out]; rfl, rfl⟩
 · have e32eq : (x == 32) = false := by simp; omega
   have e9eq : (x == 9) = false := by simp; omega
   have e10eq : (x == 10) = false := by simp; omega
   have e13eq : (x == 13) = false := by simp; omega
   have e97ge : decide (97 ≤ x) = false := decide_eq_false (by omega)
   have e122le : decide (x ≤ 122) = true := decide_eq_true (by omega)
   have e65ge : decide (65 ≤ x) = true := decide_eq_true (by omega)
   have e90le : decide (x ≤ 90) = false := decide_eq_false (by omega)
   have e48ge : decide (48 ≤ x) = true := decide_eq_true (by omega)
   have e57le : decide (x ≤ 57) = false := decide_eq_false (by omega)
   have e33ge : decide (33 ≤ x) = true := decide_eq_true (by omega)
   have e126le : decide (x ≤ 126) = true := decide_eq_true (by omega)
   have e160lt : decide (x < 160) = true := decide_eq_true (by omega)
   have hsg : rSign x = true := decide_eq_true (by omega)
   have HL := Lib.hid (show rClass x = 3 by unfold rClass; rw [hsg]; repeat (first | omega | rw [if_neg (by first | decide | omega)] | rw [if_pos (by omega)]))
   have HS := Lib.hid (rsign_any x w)
   rw [hsg] at HS
   clear hI hsg
   go_enter Tryz.func32, Tryz.ntmps32
   go_wp2_with fail
   refine HS.out.mono ?_
   rintro e w1 ⟨rfl, rfl⟩
   go_wp2_with fail
   go_ret
   exact ⟨by rw [HL.out]; rfl, rfl⟩
 · have e32eq : (x == 32) = false := by simp; omega
   have e9eq : (x == 9) = false := by simp; omega
   have e10eq : (x == 10) = false := by simp; omega
   have e13eq : (x == 13) = false := by simp; omega
   have e97ge : decide (97 ≤ x) = true := decide_eq_true (by omega)
   have e122le : decide (x ≤ 122) = true := decide_eq_true (by omega)
   have e65ge : decide (65 ≤ x) = true := decide_eq_true (by omega)
   have e90le : decide (x ≤ 90) = false := decide_eq_false (by omega)
   have e48ge : decide (48 ≤ x) = true := decide_eq_true (by omega)
   have e57le : decide (x ≤ 57) = false := decide_eq_false (by omega)
   have e33ge : decide (33 ≤ x) = true := decide_eq_true (by omega)
   have e126le : decide (x ≤ 126) = true := decide_eq_true (by omega)
   have e160lt : decide (x < 160) = true := decide_eq_true (by omega)
   have hsg : rSign x = true := decide_eq_true (by omega)
   have HL := Lib.hid (show rClass x = 1 by unfold rClass; rw [hsg]; repeat (first | omega | rw [if_neg (by first | decide | omega)] | rw [if_pos (by omega)]))
   have HS := Lib.hid (rsign_any x w)
   rw [hsg] at HS
   clear hI hsg
   go_enter Tryz.func32, Tryz.ntmps32
   go_wp2_with fail
   refine HS.out.mono ?_
   rintro e w1 ⟨rfl, rfl⟩
   go_wp2_with fail
   go_ret
   exact ⟨by rw [HL.out]; rfl, rfl⟩
 · have e32eq : (x == 32) = false := by simp; omega
   have e9eq : (x == 9) = false := by simp; omega
   have e10eq : (x == 10) = false := by simp; omega
   have e13eq : (x == 13) = false := by simp; omega
   have e97ge : decide (97 ≤ x) = true := decide_eq_true (by omega)
   have e122le : decide (x ≤ 122) = false := decide_eq_false (by omega)
   have e65ge : decide (65 ≤ x) = true := decide_eq_true (by omega)
   have e90le : decide (x ≤ 90) = false := decide_eq_false (by omega)
   have e48ge : decide (48 ≤ x) = true := decide_eq_true (by omega)
   have e57le : decide (x ≤ 57) = false := decide_eq_false (by omega)
   have e33ge : decide (33 ≤ x) = true := decide_eq_true (by omega)
   have e126le : decide (x ≤ 126) = true := decide_eq_true (by omega)
   have e160lt : decide (x < 160) = true := decide_eq_true (by omega)
   have hsg : rSign x = true := decide_eq_true (by omega)
   have HL := Lib.hid (show rClass x = 3 by unfold rClass; rw [hsg]; repeat (first | omega | rw [if_neg (by first | decide | omega)] | rw [if_pos (by omega)]))
   have HS := Lib.hid (rsign_any x w)
   rw [hsg] at HS
   clear hI hsg
   go_enter Tryz.func32, Tryz.ntmps32
   go_wp2_with fail
   refine HS.out.mono ?_
   rintro e w1 ⟨rfl, rfl⟩
   go_wp2_with fail
   go_ret
   exact ⟨by rw [HL.out]; rfl, rfl⟩
 · have e32eq : (x == 32) = false := by simp; omega
   have e9eq : (x == 9) = false := by simp; omega
   have e10eq : (x == 10) = false := by simp; omega
   have e13eq : (x == 13) = false := by simp; omega
   have e97ge : decide (97 ≤ x) = true := decide_eq_true (by omega)
   have e122le : decide (x ≤ 122) = false := decide_eq_false (by omega)
   have e65ge : decide (65 ≤ x) = true := decide_eq_true (by omega)
   have e90le : decide (x ≤ 90) = false := decide_eq_false (by omega)
   have e48ge : decide (48 ≤ x) = true := decide_eq_true (by omega)
   have e57le : decide (x ≤ 57) = false := decide_eq_false (by omega)
   have e33ge : decide (33 ≤ x) = true := decide_eq_true (by omega)
   have e126le : decide (x ≤ 126) = false := decide_eq_false (by omega)
   have e160lt : decide (x < 160) = true := decide_eq_true (by omega)
   have hsg : rSign x = true := decide_eq_true (by omega)
   have HL := Lib.hid (show rClass x = 4 by unfold rClass; rw [hsg]; repeat (first | omega | rw [if_neg (by first | decide | omega)] | rw [if_pos (by omega)]))
   have HS := Lib.hid (rsign_any x w)
   rw [hsg] at HS
   clear hI hsg
   go_enter Tryz.func32, Tryz.ntmps32
   go_wp2_with fail
   refine HS.out.mono ?_
   rintro e w1 ⟨rfl, rfl⟩
   go_wp2_with fail
   go_ret
   exact ⟨by rw [HL.out]; rfl, rfl⟩
 · have e32eq : (x == 32) = false := by simp; omega
   have e9eq : (x == 9) = false := by simp; omega
   have e10eq : (x == 10) = false := by simp; omega
   have e13eq : (x == 13) = false := by simp; omega
   have e97ge : decide (97 ≤ x) = true := decide_eq_true (by omega)
   have e122le : decide (x ≤ 122) = false := decide_eq_false (by omega)
   have e65ge : decide (65 ≤ x) = true := decide_eq_true (by omega)
   have e90le : decide (x ≤ 90) = false := decide_eq_false (by omega)
   have e48ge : decide (48 ≤ x) = true := decide_eq_true (by omega)
   have e57le : decide (x ≤ 57) = false := decide_eq_false (by omega)
   have e33ge : decide (33 ≤ x) = true := decide_eq_true (by omega)
   have e126le : decide (x ≤ 126) = false := decide_eq_false (by omega)
   have e160lt : decide (x < 160) = false := decide_eq_false (by omega)
   have hsg : rSign x = true := decide_eq_true (by omega)
   have HL := Lib.hid (show rClass x = 5 by unfold rClass; rw [hsg]; repeat (first | omega | rw [if_neg (by first | decide | omega)] | rw [if_pos (by omega)]))
   have HS := Lib.hid (rsign_any x w)
   rw [hsg] at HS
   clear hI hsg
   go_enter Tryz.func32, Tryz.ntmps32
   go_wp2_with fail
   refine HS.out.mono ?_
   rintro e w1 ⟨rfl, rfl⟩
   go_wp2_with fail
   go_ret
   exact ⟨by rw [HL.out]; rfl, rfl⟩
 · have e32eq : (x == 32) = false := by simp; omega
   have e9eq : (x == 9) = false := by simp; omega
   have e10eq : (x == 10) = false := by simp; omega
   have e13eq : (x == 13) = false := by simp; omega
   have e97ge : decide (97 ≤ x) = true := decide_eq_true (by omega)
   have e122le : decide (x ≤ 122) = false := decide_eq_false (by omega)
   have e65ge : decide (65 ≤ x) = true := decide_eq_true (by omega)
   have e90le : decide (x ≤ 90) = false := decide_eq_false (by omega)
   have e48ge : decide (48 ≤ x) = true := decide_eq_true (by omega)
   have e57le : decide (x ≤ 57) = false := decide_eq_false (by omega)
   have e33ge : decide (33 ≤ x) = true := decide_eq_true (by omega)
   have e126le : decide (x ≤ 126) = false := decide_eq_false (by omega)
   have e160lt : decide (x < 160) = false := decide_eq_false (by omega)
   have hsg : rSign x = false := decide_eq_false (by omega)
   have HL := Lib.hid (show rClass x = 6 by unfold rClass; rw [hsg]; rfl)
   have HS := Lib.hid (rsign_any x w)
   rw [hsg] at HS
   clear hI hsg
   go_enter Tryz.func32, Tryz.ntmps32
   go_wp2_with fail
   refine HS.out.mono ?_
   rintro e w1 ⟨rfl, rfl⟩
   go_wp2_with fail
   go_ret
   exact ⟨by rw [HL.out]; rfl, rfl⟩
 · have e32eq : (x == 32) = false := by simp; omega
   have e9eq : (x == 9) = false := by simp; omega
   have e10eq : (x == 10) = false := by simp; omega
   have e13eq : (x == 13) = false := by simp; omega
   have e97ge : decide (97 ≤ x) = true := decide_eq_true (by omega)
   have e122le : decide (x ≤ 122) = false := decide_eq_false (by omega)
   have e65ge : decide (65 ≤ x) = true := decide_eq_true (by omega)
   have e90le : decide (x ≤ 90) = false := decide_eq_false (by omega)
   have e48ge : decide (48 ≤ x) = true := decide_eq_true (by omega)
   have e57le : decide (x ≤ 57) = false := decide_eq_false (by omega)
   have e33ge : decide (33 ≤ x) = true := decide_eq_true (by omega)
   have e126le : decide (x ≤ 126) = false := decide_eq_false (by omega)
   have e160lt : decide (x < 160) = false := decide_eq_false (by omega)
   have hsg : rSign x = true := decide_eq_true (by omega)
   have HL := Lib.hid (show rClass x = 5 by unfold rClass; rw [hsg]; repeat (first | omega | rw [if_neg (by first | decide | omega)] | rw [if_pos (by omega)]))
   have HS := Lib.hid (rsign_any x w)
   rw [hsg] at HS
   clear hI hsg
   go_enter Tryz.func32, Tryz.ntmps32
   go_wp2_with fail
   refine HS.out.mono ?_
   rintro e w1 ⟨rfl, rfl⟩
   go_wp2_with fail
   go_ret
   exact ⟨by rw [HL.out]; rfl, rfl⟩
 · have e32eq : (x == 32) = false := by simp; omega
   have e9eq : (x == 9) = false := by simp; omega
   have e10eq : (x == 10) = false := by simp; omega
   have e13eq : (x == 13) = false := by simp; omega
   have e97ge : decide (97 ≤ x) = true := decide_eq_true (by omega)
   have e122le : decide (x ≤ 122) = false := decide_eq_false (by omega)
   have e65ge : decide (65 ≤ x) = true := decide_eq_true (by omega)
   have e90le : decide (x ≤ 90) = false := decide_eq_false (by omega)
   have e48ge : decide (48 ≤ x) = true := decide_eq_true (by omega)
   have e57le : decide (x ≤ 57) = false := decide_eq_false (by omega)
   have e33ge : decide (33 ≤ x) = true := decide_eq_true (by omega)
   have e126le : decide (x ≤ 126) = false := decide_eq_false (by omega)
   have e160lt : decide (x < 160) = false := decide_eq_false (by omega)
   have hsg : rSign x = false := decide_eq_false (by omega)
   have HL := Lib.hid (show rClass x = 6 by unfold rClass; rw [hsg]; rfl)
   have HS := Lib.hid (rsign_any x w)
   rw [hsg] at HS
   clear hI hsg
   go_enter Tryz.func32, Tryz.ntmps32
   go_wp2_with fail
   refine HS.out.mono ?_
   rintro e w1 ⟨rfl, rfl⟩
   go_wp2_with fail
   go_ret
   exact ⟨by rw [HL.out]; rfl, rfl⟩

/-- The number that a sign's bytes make, if those behind the first are such. -/
def rCont (s : ByteArray) (many k : Nat) (n : Int) : Option Int :=
 if h : k < many then (if byteAt s k < 128 ∨ 191 < byteAt s k then none else rCont s many (k + 1) (n * 64 + byteAt s k - 128)) else some n
termination_by many - k
theorem rCont_step (s : ByteArray) (many k : Nat) (n : Int) (h : k < many) : rCont s many k n = (if byteAt s k < 128 ∨ 191 < byteAt s k then none else rCont s many (k + 1) (n * 64 + byteAt s k - 128)) := by rw [rCont, dif_pos h]
theorem rCont_end (s : ByteArray) (many k : Nat) (n : Int) (h : ¬ k < many) : rCont s many k n = some n := by rw [rCont, dif_neg h]
def rDone (many : Nat) : Option Int → Int × Nat
 | none => (-1, 0)
 | some n => if rSign n = true ∧ rBytesLen n = many then (n, many) else (-1, 0)
theorem rDone_some (many : Nat) (n : Int) : rDone many (some n) = if rSign n = true ∧ rBytesLen n = many then (n, many) else (-1, 0) := rfl
def rEnd (s : ByteArray) (n : Int) (many : Nat) : Int × Nat := if s.size < many then (-1, 0) else rDone many (rCont s many 1 n)
def rFirst (s : ByteArray) : Int × Nat :=
 if byteAt s 0 < 128 then (byteAt s 0, 1)
 else if byteAt s 0 < 192 then (-1, 0)
 else if byteAt s 0 < 224 then rEnd s (byteAt s 0 - 192) 2
 else if byteAt s 0 < 240 then rEnd s (byteAt s 0 - 224) 3
 else if byteAt s 0 < 248 then rEnd s (byteAt s 0 - 240) 4
 else (-1, 0)
theorem rFirst_many (s : ByteArray) (h : 1 ≤ s.size) : (rFirst s).2 ≤ s.size := by
 have e : ∀ (m : Nat) (r : Option Int), m ≤ s.size → (rDone m r).2 ≤ s.size := by
  intro m r hm
  cases r with
  | none => exact Nat.zero_le _
  | some n => unfold rDone; dsimp only; split <;> simp <;> omega
 have e2 : ∀ (n : Int) (m : Nat), (rEnd s n m).2 ≤ s.size := by
  intro n m
  unfold rEnd
  split
  · exact Nat.zero_le _
  · exact e _ _ (by omega)
 unfold rFirst
 repeat' split
 all_goals first | exact e2 _ _ | exact h | exact Nat.zero_le _

theorem first_any (s : ByteArray) (w : World) (h1 : 1 ≤ s.size) (hs : s.size ≤ 16384) :
    Calls Tryz.prog 24 #[.string s] w fun e w' => e = .returned (.tuple #[.int .i64 (rFirst s).1, .int .i64 ((rFirst s).2 : Int)]) ∧ Fr (fun _ => False) w w' := by
 obtain ⟨rf, hrf⟩ : ∃ rf, rf = rFirst s := ⟨_, rfl⟩
 rw [← hrf]
 unfold rFirst at hrf
 have HRF := Lib.hid hrf
 clear hrf
 have hix : ∀ w : World, (Instr.index 9 (.string s) (.int .i64 0)).run Tryz.prog w = .ok (.int .u8 (byteAt s 0)) w := run_index_at (s := s) (i := 0) (by omega)
 have hbl := byteAt_le s 0
 have hs0 : (0 : Int) < (s.size : Int) := by omega
 generalize hc : byteAt s 0 = c at *
 clear hc
 rcases (show c < 128 ∨ (128 ≤ c ∧ c < 192) ∨ (192 ≤ c ∧ c < 224) ∨ (224 ≤ c ∧ c < 240) ∨ (240 ≤ c ∧ c < 248) ∨ 248 ≤ c by omega) with hI | hI | hI | hI | hI | hI
 · have e192ge : decide (192 ≤ c) = false := decide_eq_false (by omega)
   have e224ge : decide (224 ≤ c) = false := decide_eq_false (by omega)
   have e240ge : decide (240 ≤ c) = false := decide_eq_false (by omega)
   have e128lt : decide (c < 128) = true := decide_eq_true (by omega)
   have e224lt : decide (c < 224) = true := decide_eq_true (by omega)
   have e240lt : decide (c < 240) = true := decide_eq_true (by omega)
   have e248lt : decide (c < 248) = true := decide_eq_true (by omega)
   have HV := Lib.hid (show rf = (c, 1) by rw [HRF.out]; repeat (first | rw [if_neg (by omega)] | rw [if_pos (by omega)]))
   have HI := Lib.hid hI
   clear hI HRF
   go_enter Tryz.func24, Tryz.ntmps24
   go_wp2_with fail
   go_ret2
   exact ⟨by rw [HV.out]; rfl, Fr.refl _ _⟩
 · have e192ge : decide (192 ≤ c) = false := decide_eq_false (by omega)
   have e224ge : decide (224 ≤ c) = false := decide_eq_false (by omega)
   have e240ge : decide (240 ≤ c) = false := decide_eq_false (by omega)
   have e128lt : decide (c < 128) = false := decide_eq_false (by omega)
   have e224lt : decide (c < 224) = true := decide_eq_true (by omega)
   have e240lt : decide (c < 240) = true := decide_eq_true (by omega)
   have e248lt : decide (c < 248) = true := decide_eq_true (by omega)
   have HV := Lib.hid (show rf = (-1, 0) by rw [HRF.out]; repeat (first | rw [if_neg (by omega)] | rw [if_pos (by omega)]))
   have HI := Lib.hid hI
   clear hI HRF
   go_enter Tryz.func24, Tryz.ntmps24
   go_wp2_with fail
   go_ret2
   exact ⟨by rw [HV.out]; rfl, Fr.refl _ _⟩
 · have e192ge : decide (192 ≤ c) = true := decide_eq_true (by omega)
   have e224ge : decide (224 ≤ c) = false := decide_eq_false (by omega)
   have e240ge : decide (240 ≤ c) = false := decide_eq_false (by omega)
   have e128lt : decide (c < 128) = false := decide_eq_false (by omega)
   have e224lt : decide (c < 224) = true := decide_eq_true (by omega)
   have e240lt : decide (c < 240) = true := decide_eq_true (by omega)
   have e248lt : decide (c < 248) = true := decide_eq_true (by omega)
   have HV := Lib.hid (show rf = rEnd s (c - 192) 2 by rw [HRF.out]; repeat (first | rw [if_neg (by omega)] | rw [if_pos (by omega)]))
   have HI := Lib.hid hI
   clear hI HRF
   by_cases hsz : s.size < 2
   · have hsz1 : (s.size : Int) < 2 := by omega
     have hsz2 : decide ((s.size : Int) < 2) = true := decide_eq_true hsz1
     have HV := Lib.hid (show rf = (-1, 0) by rw [HV.out]; unfold rEnd; rw [if_pos hsz])
     go_enter Tryz.func24, Tryz.ntmps24
     go_wp2_with fail
     go_ret2
     exact ⟨by rw [HV.out]; rfl, Fr.refl _ _⟩
   · have hsz1 : decide ((s.size : Int) < 2) = false := decide_eq_false (by omega)
     have hsz3 : (2 : Int) ≤ (s.size : Int) := by omega
     have HV := Lib.hid (show rf = rDone 2 (rCont s 2 1 (c - 192)) by rw [HV.out]; unfold rEnd; rw [if_neg hsz])
     obtain ⟨r0, hr0⟩ : ∃ r0, r0 = rCont s 2 1 (c - 192) := ⟨_, rfl⟩
     rw [← hr0] at HV
     have HR0 := Lib.hid hr0
     clear hr0 hsz
     go_enter Tryz.func24, Tryz.ntmps24
     go_wp2_with fail
     go_loopw [4, 7] (fun nv kv wr => ∃ (n : Int) (k : Nat), nv = .int .i64 n ∧ kv = .int .i64 (k : Int) ∧ 1 ≤ k ∧ k ≤ 2 ∧ 0 ≤ n ∧ n + 1 ≤ 32 * 64 ^ (k - 1) ∧ wr = w ∧ rCont s 2 k n = r0) (fun _ kv _ => 2 - (intOf kv).toNat)
     case atStart => have hI := HI.out; exact ⟨c - 192, 1, by go_num, rfl, by omega, by omega, by omega, by simp; omega, rfl, HR0.out.symm⟩
     case round =>
      obtain ⟨n, k, rfl, rfl, hk1, hk2, hn0, hn1, rfl, hcn⟩ := hrel
      have hnb : n < 8388608 := by
       have : k = 1 ∨ k = 2 ∨ k = 3 ∨ k = 4 := by omega
       rcases this with rfl | rfl | rfl | rfl <;> simp at hn1 <;> omega
      by_cases hlt : k < 2
      · have hlt' : (k : Int) < 2 := by omega
        have hks : (k : Int) < (s.size : Int) := by omega
        have hkx := run_index_at (s := s) (i := k) (by omega)
        have hbk := byteAt_le s k
        rw [rCont_step s 2 k n hlt] at hcn
        generalize byteAt s k = b at *
        have HCN := Lib.hid hcn
        have hpow : (64 : Int) ^ k = 64 * 64 ^ (k - 1) := by
         obtain ⟨j, rfl⟩ : ∃ j, k = j + 1 := ⟨k - 1, by omega⟩
         rw [Int.pow_succ]; simp; omega
        have HN1 := Lib.hid (And.intro hn1 hpow)
        clear hcn hn1 hpow
        by_cases hb1 : b < 128
        · have hb1' : decide (b < 128) = true := decide_eq_true hb1
          have HX := Lib.hid (show rf = (-1, 0) by rw [HV.out, ← HCN.out, if_pos (.inl hb1)]; rfl)
          go_wp2_with fail
          go_ret2
          exact ⟨by rw [HX.out]; rfl, Fr.refl _ _⟩
        · have hb1' : decide (b < 128) = false := decide_eq_false hb1
          by_cases hb2 : 191 < b
          · have hb2' : decide (191 < b) = true := decide_eq_true hb2
            have HX := Lib.hid (show rf = (-1, 0) by rw [HV.out, ← HCN.out, if_pos (.inr hb2)]; rfl)
            clear hb1
            go_wp2_with fail
            go_ret2
            exact ⟨by rw [HX.out]; rfl, Fr.refl _ _⟩
          · have hb2' : decide (191 < b) = false := decide_eq_false hb2
            have HX := Lib.hid (show rCont s 2 (k + 1) (n * 64 + b - 128) = r0 by rw [← HCN.out, if_neg (by omega)])
            have hb3 : 128 ≤ b := by omega
            have hb4 : b ≤ 191 := by omega
            clear hb1 hb2
            go_wp2_with fail
            go_roundw
            case rel => exact ⟨n * 64 + b - 128, k + 1, by go_num, by go_num, by omega, by omega, by omega, by have h1 := HN1.out.1; have h2 := HN1.out.2; simp only [Nat.add_sub_cancel]; rw [h2]; omega, by simp, HX.out⟩
            case measure => simp [intOf]; omega
      · have hge : (2 : Int) ≤ (k : Int) := by omega
        have hlf : ¬ (k : Int) < 2 := by omega
        rw [rCont_end s 2 k n hlt] at hcn
        have HX := Lib.hid (show rf = rDone 2 (some n) by rw [HV.out, ← hcn])
        rw [rDone_some] at HX
        clear hcn hlt hn1
        have HS := Lib.hid (fun w => rsign_any n w)
        have HB := Lib.hid (fun w => rbytes_any n w)
        have hbm : rBytesLen n ≤ 4 := by unfold rBytesLen; (repeat' split) <;> omega
        generalize rSign n = sg at *
        generalize rBytesLen n = bl at *
        cases sg with
        | false =>
         have HY := Lib.hid (show rf = (-1, 0) by rw [HX.out]; simp)
         clear HX
         go_wp2_with fail
         refine (HS.out _).mono ?_
         rintro e w1 ⟨rfl, rfl⟩
         go_wp2_with fail
         go_ret2
         exact ⟨by rw [HY.out]; rfl, Fr.refl _ _⟩
        | true =>
         by_cases hbl2 : bl = 2
         · subst hbl2
           have HY := Lib.hid (show rf = (n, 2) by rw [HX.out]; simp)
           clear HX
           go_wp2_with fail
           refine (HS.out _).mono ?_
           rintro e w1 ⟨rfl, rfl⟩
           go_wp2_with fail
           refine (HB.out _).mono ?_
           rintro e w2 ⟨A, c2, rfl, hf⟩
           have HF := Lib.hid hf
           clear hf
           go_wp2_with fail
           go_ret2
           exact ⟨by rw [HY.out]; rfl, HF.out⟩
         · have hne : (((bl : Nat) : Int) != 2) = true := by simp; omega
           have HY := Lib.hid (show rf = (-1, 0) by rw [HX.out]; simp [hbl2])
           clear HX
           clear hbl2
           go_wp2_with fail
           refine (HS.out _).mono ?_
           rintro e w1 ⟨rfl, rfl⟩
           go_wp2_with fail
           refine (HB.out _).mono ?_
           rintro e w2 ⟨A, c2, rfl, hf⟩
           have HF := Lib.hid hf
           clear hf
           go_wp2_with fail
           go_ret2
           exact ⟨by rw [HY.out]; rfl, HF.out⟩
 · have e192ge : decide (192 ≤ c) = true := decide_eq_true (by omega)
   have e224ge : decide (224 ≤ c) = true := decide_eq_true (by omega)
   have e240ge : decide (240 ≤ c) = false := decide_eq_false (by omega)
   have e128lt : decide (c < 128) = false := decide_eq_false (by omega)
   have e224lt : decide (c < 224) = false := decide_eq_false (by omega)
   have e240lt : decide (c < 240) = true := decide_eq_true (by omega)
   have e248lt : decide (c < 248) = true := decide_eq_true (by omega)
   have HV := Lib.hid (show rf = rEnd s (c - 224) 3 by rw [HRF.out]; repeat (first | rw [if_neg (by omega)] | rw [if_pos (by omega)]))
   have HI := Lib.hid hI
   clear hI HRF
   by_cases hsz : s.size < 3
   · have hsz1 : (s.size : Int) < 3 := by omega
     have hsz2 : decide ((s.size : Int) < 3) = true := decide_eq_true hsz1
     have HV := Lib.hid (show rf = (-1, 0) by rw [HV.out]; unfold rEnd; rw [if_pos hsz])
     go_enter Tryz.func24, Tryz.ntmps24
     go_wp2_with fail
     go_ret2
     exact ⟨by rw [HV.out]; rfl, Fr.refl _ _⟩
   · have hsz1 : decide ((s.size : Int) < 3) = false := decide_eq_false (by omega)
     have hsz3 : (3 : Int) ≤ (s.size : Int) := by omega
     have HV := Lib.hid (show rf = rDone 3 (rCont s 3 1 (c - 224)) by rw [HV.out]; unfold rEnd; rw [if_neg hsz])
     obtain ⟨r0, hr0⟩ : ∃ r0, r0 = rCont s 3 1 (c - 224) := ⟨_, rfl⟩
     rw [← hr0] at HV
     have HR0 := Lib.hid hr0
     clear hr0 hsz
     go_enter Tryz.func24, Tryz.ntmps24
     go_wp2_with fail
     go_loopw [4, 7] (fun nv kv wr => ∃ (n : Int) (k : Nat), nv = .int .i64 n ∧ kv = .int .i64 (k : Int) ∧ 1 ≤ k ∧ k ≤ 3 ∧ 0 ≤ n ∧ n + 1 ≤ 32 * 64 ^ (k - 1) ∧ wr = w ∧ rCont s 3 k n = r0) (fun _ kv _ => 3 - (intOf kv).toNat)
     case atStart => have hI := HI.out; exact ⟨c - 224, 1, by go_num, rfl, by omega, by omega, by omega, by simp; omega, rfl, HR0.out.symm⟩
     case round =>
      obtain ⟨n, k, rfl, rfl, hk1, hk2, hn0, hn1, rfl, hcn⟩ := hrel
      have hnb : n < 8388608 := by
       have : k = 1 ∨ k = 2 ∨ k = 3 ∨ k = 4 := by omega
       rcases this with rfl | rfl | rfl | rfl <;> simp at hn1 <;> omega
      by_cases hlt : k < 3
      · have hlt' : (k : Int) < 3 := by omega
        have hks : (k : Int) < (s.size : Int) := by omega
        have hkx := run_index_at (s := s) (i := k) (by omega)
        have hbk := byteAt_le s k
        rw [rCont_step s 3 k n hlt] at hcn
        generalize byteAt s k = b at *
        have HCN := Lib.hid hcn
        have hpow : (64 : Int) ^ k = 64 * 64 ^ (k - 1) := by
         obtain ⟨j, rfl⟩ : ∃ j, k = j + 1 := ⟨k - 1, by omega⟩
         rw [Int.pow_succ]; simp; omega
        have HN1 := Lib.hid (And.intro hn1 hpow)
        clear hcn hn1 hpow
        by_cases hb1 : b < 128
        · have hb1' : decide (b < 128) = true := decide_eq_true hb1
          have HX := Lib.hid (show rf = (-1, 0) by rw [HV.out, ← HCN.out, if_pos (.inl hb1)]; rfl)
          go_wp2_with fail
          go_ret2
          exact ⟨by rw [HX.out]; rfl, Fr.refl _ _⟩
        · have hb1' : decide (b < 128) = false := decide_eq_false hb1
          by_cases hb2 : 191 < b
          · have hb2' : decide (191 < b) = true := decide_eq_true hb2
            have HX := Lib.hid (show rf = (-1, 0) by rw [HV.out, ← HCN.out, if_pos (.inr hb2)]; rfl)
            clear hb1
            go_wp2_with fail
            go_ret2
            exact ⟨by rw [HX.out]; rfl, Fr.refl _ _⟩
          · have hb2' : decide (191 < b) = false := decide_eq_false hb2
            have HX := Lib.hid (show rCont s 3 (k + 1) (n * 64 + b - 128) = r0 by rw [← HCN.out, if_neg (by omega)])
            have hb3 : 128 ≤ b := by omega
            have hb4 : b ≤ 191 := by omega
            clear hb1 hb2
            go_wp2_with fail
            go_roundw
            case rel => exact ⟨n * 64 + b - 128, k + 1, by go_num, by go_num, by omega, by omega, by omega, by have h1 := HN1.out.1; have h2 := HN1.out.2; simp only [Nat.add_sub_cancel]; rw [h2]; omega, by simp, HX.out⟩
            case measure => simp [intOf]; omega
      · have hge : (3 : Int) ≤ (k : Int) := by omega
        have hlf : ¬ (k : Int) < 3 := by omega
        rw [rCont_end s 3 k n hlt] at hcn
        have HX := Lib.hid (show rf = rDone 3 (some n) by rw [HV.out, ← hcn])
        rw [rDone_some] at HX
        clear hcn hlt hn1
        have HS := Lib.hid (fun w => rsign_any n w)
        have HB := Lib.hid (fun w => rbytes_any n w)
        have hbm : rBytesLen n ≤ 4 := by unfold rBytesLen; (repeat' split) <;> omega
        generalize rSign n = sg at *
        generalize rBytesLen n = bl at *
        cases sg with
        | false =>
         have HY := Lib.hid (show rf = (-1, 0) by rw [HX.out]; simp)
         clear HX
         go_wp2_with fail
         refine (HS.out _).mono ?_
         rintro e w1 ⟨rfl, rfl⟩
         go_wp2_with fail
         go_ret2
         exact ⟨by rw [HY.out]; rfl, Fr.refl _ _⟩
        | true =>
         by_cases hbl2 : bl = 3
         · subst hbl2
           have HY := Lib.hid (show rf = (n, 3) by rw [HX.out]; simp)
           clear HX
           go_wp2_with fail
           refine (HS.out _).mono ?_
           rintro e w1 ⟨rfl, rfl⟩
           go_wp2_with fail
           refine (HB.out _).mono ?_
           rintro e w2 ⟨A, c2, rfl, hf⟩
           have HF := Lib.hid hf
           clear hf
           go_wp2_with fail
           go_ret2
           exact ⟨by rw [HY.out]; rfl, HF.out⟩
         · have hne : (((bl : Nat) : Int) != 3) = true := by simp; omega
           have HY := Lib.hid (show rf = (-1, 0) by rw [HX.out]; simp [hbl2])
           clear HX
           clear hbl2
           go_wp2_with fail
           refine (HS.out _).mono ?_
           rintro e w1 ⟨rfl, rfl⟩
           go_wp2_with fail
           refine (HB.out _).mono ?_
           rintro e w2 ⟨A, c2, rfl, hf⟩
           have HF := Lib.hid hf
           clear hf
           go_wp2_with fail
           go_ret2
           exact ⟨by rw [HY.out]; rfl, HF.out⟩
 · have e192ge : decide (192 ≤ c) = true := decide_eq_true (by omega)
   have e224ge : decide (224 ≤ c) = true := decide_eq_true (by omega)
   have e240ge : decide (240 ≤ c) = true := decide_eq_true (by omega)
   have e128lt : decide (c < 128) = false := decide_eq_false (by omega)
   have e224lt : decide (c < 224) = false := decide_eq_false (by omega)
   have e240lt : decide (c < 240) = false := decide_eq_false (by omega)
   have e248lt : decide (c < 248) = true := decide_eq_true (by omega)
   have HV := Lib.hid (show rf = rEnd s (c - 240) 4 by rw [HRF.out]; repeat (first | rw [if_neg (by omega)] | rw [if_pos (by omega)]))
   have HI := Lib.hid hI
   clear hI HRF
   by_cases hsz : s.size < 4
   · have hsz1 : (s.size : Int) < 4 := by omega
     have hsz2 : decide ((s.size : Int) < 4) = true := decide_eq_true hsz1
     have HV := Lib.hid (show rf = (-1, 0) by rw [HV.out]; unfold rEnd; rw [if_pos hsz])
     go_enter Tryz.func24, Tryz.ntmps24
     go_wp2_with fail
     go_ret2
     exact ⟨by rw [HV.out]; rfl, Fr.refl _ _⟩
   · have hsz1 : decide ((s.size : Int) < 4) = false := decide_eq_false (by omega)
     have hsz3 : (4 : Int) ≤ (s.size : Int) := by omega
     have HV := Lib.hid (show rf = rDone 4 (rCont s 4 1 (c - 240)) by rw [HV.out]; unfold rEnd; rw [if_neg hsz])
     obtain ⟨r0, hr0⟩ : ∃ r0, r0 = rCont s 4 1 (c - 240) := ⟨_, rfl⟩
     rw [← hr0] at HV
     have HR0 := Lib.hid hr0
     clear hr0 hsz
     go_enter Tryz.func24, Tryz.ntmps24
     go_wp2_with fail
     go_loopw [4, 7] (fun nv kv wr => ∃ (n : Int) (k : Nat), nv = .int .i64 n ∧ kv = .int .i64 (k : Int) ∧ 1 ≤ k ∧ k ≤ 4 ∧ 0 ≤ n ∧ n + 1 ≤ 32 * 64 ^ (k - 1) ∧ wr = w ∧ rCont s 4 k n = r0) (fun _ kv _ => 4 - (intOf kv).toNat)
     case atStart => have hI := HI.out; exact ⟨c - 240, 1, by go_num, rfl, by omega, by omega, by omega, by simp; omega, rfl, HR0.out.symm⟩
     case round =>
      obtain ⟨n, k, rfl, rfl, hk1, hk2, hn0, hn1, rfl, hcn⟩ := hrel
      have hnb : n < 8388608 := by
       have : k = 1 ∨ k = 2 ∨ k = 3 ∨ k = 4 := by omega
       rcases this with rfl | rfl | rfl | rfl <;> simp at hn1 <;> omega
      by_cases hlt : k < 4
      · have hlt' : (k : Int) < 4 := by omega
        have hks : (k : Int) < (s.size : Int) := by omega
        have hkx := run_index_at (s := s) (i := k) (by omega)
        have hbk := byteAt_le s k
        rw [rCont_step s 4 k n hlt] at hcn
        generalize byteAt s k = b at *
        have HCN := Lib.hid hcn
        have hpow : (64 : Int) ^ k = 64 * 64 ^ (k - 1) := by
         obtain ⟨j, rfl⟩ : ∃ j, k = j + 1 := ⟨k - 1, by omega⟩
         rw [Int.pow_succ]; simp; omega
        have HN1 := Lib.hid (And.intro hn1 hpow)
        clear hcn hn1 hpow
        by_cases hb1 : b < 128
        · have hb1' : decide (b < 128) = true := decide_eq_true hb1
          have HX := Lib.hid (show rf = (-1, 0) by rw [HV.out, ← HCN.out, if_pos (.inl hb1)]; rfl)
          go_wp2_with fail
          go_ret2
          exact ⟨by rw [HX.out]; rfl, Fr.refl _ _⟩
        · have hb1' : decide (b < 128) = false := decide_eq_false hb1
          by_cases hb2 : 191 < b
          · have hb2' : decide (191 < b) = true := decide_eq_true hb2
            have HX := Lib.hid (show rf = (-1, 0) by rw [HV.out, ← HCN.out, if_pos (.inr hb2)]; rfl)
            clear hb1
            go_wp2_with fail
            go_ret2
            exact ⟨by rw [HX.out]; rfl, Fr.refl _ _⟩
          · have hb2' : decide (191 < b) = false := decide_eq_false hb2
            have HX := Lib.hid (show rCont s 4 (k + 1) (n * 64 + b - 128) = r0 by rw [← HCN.out, if_neg (by omega)])
            have hb3 : 128 ≤ b := by omega
            have hb4 : b ≤ 191 := by omega
            clear hb1 hb2
            go_wp2_with fail
            go_roundw
            case rel => exact ⟨n * 64 + b - 128, k + 1, by go_num, by go_num, by omega, by omega, by omega, by have h1 := HN1.out.1; have h2 := HN1.out.2; simp only [Nat.add_sub_cancel]; rw [h2]; omega, by simp, HX.out⟩
            case measure => simp [intOf]; omega
      · have hge : (4 : Int) ≤ (k : Int) := by omega
        have hlf : ¬ (k : Int) < 4 := by omega
        rw [rCont_end s 4 k n hlt] at hcn
        have HX := Lib.hid (show rf = rDone 4 (some n) by rw [HV.out, ← hcn])
        rw [rDone_some] at HX
        clear hcn hlt hn1
        have HS := Lib.hid (fun w => rsign_any n w)
        have HB := Lib.hid (fun w => rbytes_any n w)
        have hbm : rBytesLen n ≤ 4 := by unfold rBytesLen; (repeat' split) <;> omega
        generalize rSign n = sg at *
        generalize rBytesLen n = bl at *
        cases sg with
        | false =>
         have HY := Lib.hid (show rf = (-1, 0) by rw [HX.out]; simp)
         clear HX
         go_wp2_with fail
         refine (HS.out _).mono ?_
         rintro e w1 ⟨rfl, rfl⟩
         go_wp2_with fail
         go_ret2
         exact ⟨by rw [HY.out]; rfl, Fr.refl _ _⟩
        | true =>
         by_cases hbl2 : bl = 4
         · subst hbl2
           have HY := Lib.hid (show rf = (n, 4) by rw [HX.out]; simp)
           clear HX
           go_wp2_with fail
           refine (HS.out _).mono ?_
           rintro e w1 ⟨rfl, rfl⟩
           go_wp2_with fail
           refine (HB.out _).mono ?_
           rintro e w2 ⟨A, c2, rfl, hf⟩
           have HF := Lib.hid hf
           clear hf
           go_wp2_with fail
           go_ret2
           exact ⟨by rw [HY.out]; rfl, HF.out⟩
         · have hne : (((bl : Nat) : Int) != 4) = true := by simp; omega
           have HY := Lib.hid (show rf = (-1, 0) by rw [HX.out]; simp [hbl2])
           clear HX
           clear hbl2
           go_wp2_with fail
           refine (HS.out _).mono ?_
           rintro e w1 ⟨rfl, rfl⟩
           go_wp2_with fail
           refine (HB.out _).mono ?_
           rintro e w2 ⟨A, c2, rfl, hf⟩
           have HF := Lib.hid hf
           clear hf
           go_wp2_with fail
           go_ret2
           exact ⟨by rw [HY.out]; rfl, HF.out⟩
 · have e192ge : decide (192 ≤ c) = true := decide_eq_true (by omega)
   have e224ge : decide (224 ≤ c) = true := decide_eq_true (by omega)
   have e240ge : decide (240 ≤ c) = true := decide_eq_true (by omega)
   have e128lt : decide (c < 128) = false := decide_eq_false (by omega)
   have e224lt : decide (c < 224) = false := decide_eq_false (by omega)
   have e240lt : decide (c < 240) = false := decide_eq_false (by omega)
   have e248lt : decide (c < 248) = false := decide_eq_false (by omega)
   have HV := Lib.hid (show rf = (-1, 0) by rw [HRF.out]; repeat (first | rw [if_neg (by omega)] | rw [if_pos (by omega)]))
   have HI := Lib.hid hI
   clear hI HRF
   go_enter Tryz.func24, Tryz.ntmps24
   go_wp2_with fail
   go_ret2
   exact ⟨by rw [HV.out]; rfl, Fr.refl _ _⟩

def rSignsFrom (s : ByteArray) (i : Nat) (l : List Int) : List Int × Bool :=
 if h : i < s.size then (if h0 : (rFirst (s.extract i s.size)).2 = 0 then (l, false) else rSignsFrom s (i + (rFirst (s.extract i s.size)).2) (l ++ [(rFirst (s.extract i s.size)).1])) else (l, true)
termination_by s.size - i
decreasing_by exact Nat.sub_lt_sub_left h (Nat.lt_add_of_pos_right (Nat.pos_of_ne_zero h0))
theorem rSignsFrom_step (s : ByteArray) (i : Nat) (l : List Int) (h : i < s.size) : rSignsFrom s i l = if (rFirst (s.extract i s.size)).2 = 0 then (l, false) else rSignsFrom s (i + (rFirst (s.extract i s.size)).2) (l ++ [(rFirst (s.extract i s.size)).1]) := by
 rw [rSignsFrom, dif_pos h]
 by_cases h0 : (rFirst (s.extract i s.size)).2 = 0
 · rw [dif_pos h0, if_pos h0]
 · rw [dif_neg h0, if_neg h0]
theorem rSignsFrom_end (s : ByteArray) (i : Nat) (l : List Int) (h : ¬ i < s.size) : rSignsFrom s i l = (l, true) := by rw [rSignsFrom, dif_neg h]
def rSigns (s : ByteArray) : List Int × Bool := rSignsFrom s 0 []

def SignsPost (s : ByteArray) (w : World) (e : Ending) (w' : World) : Prop :=
 ∃ (A : Option Addr) (c : Nat), e = .returned (.tuple #[.slice A (rSigns s).1.length c, .bool (rSigns s).2]) ∧ w'.ownsRow w.heap.size 3 1 (.slice A (rSigns s).1.length c) (rSigns s).1.length ((rSigns s).1.map (.int .i64)) ∧ (rSigns s).1.length ≤ s.size ∧ Fr (fun _ => False) w w'

theorem signs_any (s : ByteArray) (w : World) (hs : s.size ≤ 16384) : Calls Tryz.prog 15 #[.string s] w (SignsPost s w) := by
 obtain ⟨i3, hi3, hz30, hz31, hz32⟩ := info_parts info3
 obtain ⟨rs, hrs⟩ : ∃ rs, rs = rSigns s := ⟨_, rfl⟩
 have HRS := Lib.hid hrs
 unfold SignsPost
 rw [← hrs]
 unfold rSigns at hrs
 have HR0 := Lib.hid hrs
 clear hrs
 have hs' : (s.size : Int) ≤ 16384 := by omega
 go_enter Tryz.func15, Tryz.ntmps15
 go_wp2_with fail
 go_loopw [4, 5] (fun ov iv wr => ∃ (A : Option Addr) (c : Nat) (l : List Int) (i : Nat), ov = .slice A l.length c ∧ iv = .int .i64 (i : Int) ∧ i ≤ s.size ∧ l.length ≤ i ∧ wr.ownsRow w.heap.size 3 1 (.slice A l.length c) l.length (l.map (.int .i64)) ∧ Fr (fun j => w.heap.size ≤ j) w wr ∧ rSignsFrom s i l = rs) (fun _ iv _ => s.size - (intOf iv).toNat)
 case atStart => exact ⟨none, 0, [], 0, rfl, rfl, Nat.zero_le _, Nat.le_refl _, World.ownsRow_nil _ _ _ _, Fr.refl _ _, HR0.out.symm⟩
 case round =>
  obtain ⟨A, c, l, i, rfl, rfl, hi, hli, hrow, hf, hsg⟩ := hrel
  have HF := Lib.hid hf
  have HROW := Lib.hid hrow
  have hszf := hf.size
  clear hf hrow
  by_cases hlt : i < s.size
  · have hlt' : (i : Int) < (s.size : Int) := by omega
    rw [rSignsFrom_step s i l hlt] at hsg
    have hxs : (s.extract i s.size).size = s.size - i := by rw [ByteArray.size_extract]; omega
    have HFI := Lib.hid (fun w => first_any (s.extract i s.size) w (by omega) (by omega))
    have hmm := rFirst_many (s.extract i s.size) (by omega)
    rw [hxs] at hmm
    obtain ⟨n, m, hnm⟩ : ∃ n m, rFirst (s.extract i s.size) = (n, m) := ⟨_, _, rfl⟩
    rw [hnm] at HFI hsg hmm
    clear hnm hxs
    dsimp only at hsg hmm
    have HFI := Lib.hid (show ∀ w, Calls Tryz.prog 24 #[.string (s.extract i s.size)] w fun e w' => e = .returned (.tuple #[.int .i64 n, .int .i64 (m : Int)]) ∧ Fr (fun _ => False) w w' from HFI.out)
    by_cases hm0 : m = 0
    · subst hm0
      have HX := Lib.hid (show rs = (l, false) by rw [← hsg]; rfl)
      clear hsg
      go_wp2_with fail
      refine (HFI.out _).mono ?_
      rintro e w1 ⟨rfl, hf1⟩
      have HF1 := Lib.hid hf1
      clear hf1
      go_wp2_with fail
      go_ret2
      have hr1 := ownsRow_fr HROW.out HF1.out (fun _ _ h => h)
      exact ⟨A, c, by rw [HX.out]; rfl, by rw [HX.out]; exact hr1, by rw [HX.out]; show l.length ≤ _; omega, (HF.out.trans HF1.out (fun _ _ h => h.elim)).shut (Nat.le_refl _)⟩
    · have hm0' : ((m : Int) == 0) = false := by simp [hm0]
      rw [if_neg hm0] at hsg
      have HX := Lib.hid hsg
      have hm1 : 1 ≤ m := by omega
      clear hsg hm0
      go_wp2_with fail
      refine (HFI.out _).mono ?_
      rintro e w1 ⟨rfl, hf1⟩
      have hr1 := ownsRow_fr HROW.out hf1 (fun _ _ h => h)
      have hsz1 := hf1.size
      have HF1 := Lib.hid (HF.out.trans hf1 (fun _ _ h => h.elim))
      clear hf1
      go_wp2_with (at_builtin; refine wpList_append_own _ rfl _ _ 79 rfl w.heap.size 3 i3 _ 1 8 Tryz.underlying79 hi3 hz30 hz31 hz32 rfl (by decide) _ l.length (l.map (.int .i64)) (by rfl) (hr1.alloc _) ⟨w1.heap.size, 0, none⟩ 1 1 [.int .i64 n] (by rfl) rfl (World.news_of_block (heap_alloc_new w1 _)) (by intro u hu; rw [List.mem_singleton] at hu; rw [hu]; rfl) (by unfold maxLen; omega) (by omega) (by simp; omega) ?_; intro v2 w2 hown2 hgr2; obtain ⟨A2, c2, hv2⟩ := row_shape hown2; subst hv2)
      have HF2 := Lib.hid ((HF1.out.alloc (.cells #[.int .i64 n] 3)).grown hgr2 (fun k hk e => (World.ownsRow.lt hr1 k e).1))
      have HR2 := Lib.hid hown2
      clear hown2 hgr2 hr1
      go_wp2_with fail
      go_roundw
      case rel => exact ⟨A2, c2, l ++ [n], i + m, by simp, by go_num, by omega, by simp; omega, by simpa using HR2.out, HF2.out, HX.out⟩
      case measure => simp [intOf]; omega
  · have hge : (s.size : Int) ≤ (i : Int) := by omega
    have hnl : ¬ (i : Int) < (s.size : Int) := by omega
    rw [rSignsFrom_end s i l hlt] at hsg
    have HX := Lib.hid hsg.symm
    clear hsg hlt
    go_wp2_with fail
    go_ret2
    exact ⟨A, c, by rw [HX.out]; rfl, by rw [HX.out]; exact HROW.out, by rw [HX.out]; show l.length ≤ _; omega, HF.out.shut (Nat.le_refl _)⟩

/-- The signs that an IRI may not hold. -/
def badS : ByteArray := ⟨#[60, 62, 34, 123, 125, 124, 94, 96, 92]⟩
def rBad (n : Int) (k : Nat) : Bool := if h : k < 9 then n == byteAt badS k || rBad n (k + 1) else false
termination_by 9 - k
theorem rBad_step (n : Int) (k : Nat) (h : k < 9) : rBad n k = (n == byteAt badS k || rBad n (k + 1)) := by rw [rBad, dif_pos h]
theorem rBad_end (n : Int) (k : Nat) (h : ¬ k < 9) : rBad n k = false := by rw [rBad, dif_neg h]
def rColon (n : Int) (i : Nat) (colon : Int) : Int := if n = 58 ∧ colon < 0 then (i : Int) else colon
def rIriFrom (l : List Int) (i : Nat) (colon : Int) : Bool :=
 if h : i < l.length then
  (if rClass (l.getD i 0) = 0 ∨ rClass (l.getD i 0) = 4 then false else if rBad (l.getD i 0) 0 = true then false else rIriFrom l (i + 1) (rColon (l.getD i 0) i colon))
 else decide (0 < colon)
termination_by l.length - i
theorem rIriFrom_step (l : List Int) (i : Nat) (colon : Int) (h : i < l.length) : rIriFrom l i colon = (if rClass (l.getD i 0) = 0 ∨ rClass (l.getD i 0) = 4 then false else if rBad (l.getD i 0) 0 = true then false else rIriFrom l (i + 1) (rColon (l.getD i 0) i colon)) := by rw [rIriFrom, dif_pos h]
theorem rIriFrom_end (l : List Int) (i : Nat) (colon : Int) (h : ¬ i < l.length) : rIriFrom l i colon = decide (0 < colon) := by rw [rIriFrom, dif_neg h]
def rIri (s : ByteArray) : Bool := (rSigns s).2 && (decide (s.size ≤ 4096) && rIriFrom (rSigns s).1 0 (-1))

theorem riri_any (s : ByteArray) (w : World) (hs : s.size ≤ 16384) : Calls Tryz.prog 117 #[.string s] w (IsB (rIri s) w) := by
 obtain ⟨ri, hri⟩ : ∃ ri, ri = rIri s := ⟨_, rfl⟩
 rw [← hri]
 unfold rIri at hri
 have hs' : (s.size : Int) ≤ 16384 := by omega
 have HSI := Lib.hid (signs_any s w hs)
 unfold SignsPost at HSI
 obtain ⟨l, ok, hlo⟩ : ∃ l ok, rSigns s = (l, ok) := ⟨_, _, rfl⟩
 rw [hlo] at HSI hri
 clear hlo
 have HRI := Lib.hid (show ri = (ok && (decide (s.size ≤ 4096) && rIriFrom l 0 (-1))) from hri)
 clear hri
 have HSI := Lib.hid (show Calls Tryz.prog 15 #[.string s] w fun e w' => ∃ (A : Option Addr) (c : Nat), e = .returned (.tuple #[.slice A l.length c, .bool ok]) ∧ w'.ownsRow w.heap.size 3 1 (.slice A l.length c) l.length (l.map (.int .i64)) ∧ l.length ≤ s.size ∧ Fr (fun _ => False) w w' from HSI.out)
 cases ok with
 | false =>
  go_enter Tryz.func117, Tryz.ntmps117
  go_wp2_with fail
  refine HSI.out.mono ?_
  rintro e w1 ⟨A, c, rfl, hrow, hll, hf⟩
  have HF := Lib.hid hf
  clear hf hrow
  go_wp2_with fail
  go_ret
  exact IsB.of HF.out (by rw [HRI.out]; rfl)
 | true =>
  by_cases hbig : 4096 < s.size
  · have HRX := Lib.hid (show ri = false by rw [HRI.out, decide_eq_false (by omega : ¬ s.size ≤ 4096)]; rfl)
    have hsd : (4096 : Int) < (s.size : Int) := by omega
    clear HRI
    go_enter Tryz.func117, Tryz.ntmps117
    go_wp2_with fail
    refine HSI.out.mono ?_
    rintro e w1 ⟨A, c, rfl, hrow, hll, hf⟩
    have HF := Lib.hid hf
    clear hf hrow
    go_wp2_with fail
    go_ret
    exact IsB.of HF.out (by rw [HRX.out])
  have HRI := Lib.hid (show ri = rIriFrom l 0 (-1) by rw [HRI.out, decide_eq_true (by omega : s.size ≤ 4096)]; rfl)
  go_enter Tryz.func117, Tryz.ntmps117
  go_wp2_with fail
  refine HSI.out.mono ?_
  rintro e w1 ⟨A, c, rfl, hrow, hll, hf⟩
  have HF := Lib.hid hf
  have HROW := Lib.hid hrow
  have hlb : (l.length : Int) ≤ 16384 := by omega
  have hsd : ¬ (4096 : Int) < (s.size : Int) := by omega
  clear hf hrow
  go_wp2_with fail
  go_loopw [5, 24] (fun cv iv wr => ∃ (colon : Int) (i : Nat), cv = .int .i64 colon ∧ iv = .int .i64 (i : Int) ∧ i ≤ l.length ∧ Fr (fun _ => False) w1 wr ∧ rIriFrom l i colon = ri) (fun _ iv _ => l.length - (intOf iv).toNat)
  case atStart => exact ⟨-1, 0, rfl, rfl, Nat.zero_le _, Fr.refl _ _, HRI.out.symm⟩
  case round =>
   obtain ⟨colon, i, rfl, rfl, hi, hfr, hri⟩ := hrel
   have HFE := Lib.hid (HF.out.trans' hfr)
   by_cases hlt : i < l.length
   · have hlt' : (i : Int) < (l.length : Int) := by omega
     obtain ⟨g, hg, -, hgl, hgc⟩ := row_form HROW.out (by omega)
     subst hg
     have hrow := ownsRow_fr HROW.out hfr (fun _ _ h => h)
     have hck : wr.cell? ⟨g, i, none⟩ = some (.int .i64 (l.getD i 0)) := by
      rw [World.ownsRow.cellAt hrow i (by omega), List.getElem?_map, List.getD_eq_getElem?_getD]
      rw [List.getElem?_eq_getElem (by omega)]
      rfl
     rw [rIriFrom_step l i colon hlt] at hri
     generalize l.getD i 0 = n at *
     have HCL := Lib.hid (fun w => rclass_any n w)
     have HFR := Lib.hid hfr
     have hszr := hfr.size
     clear hrow hfr
     generalize rClass n = cl at *
     by_cases h0 : cl = 0
     · subst h0
       have HX := Lib.hid (show ri = false by rw [← hri, if_pos (.inl rfl)])
       clear hri
       go_wp2_with fail
       refine (HCL.out _).mono ?_
       rintro e w2 ⟨rfl, rfl⟩
       go_wp2_with fail
       go_ret
       exact IsB.of HFE.out (by rw [HX.out])
     · have h0' : (cl == 0) = false := by simp [h0]
       by_cases h4 : cl = 4
       · subst h4
         have HX := Lib.hid (show ri = false by rw [← hri, if_pos (.inr rfl)])
         clear hri h0
         go_wp2_with fail
         refine (HCL.out _).mono ?_
         rintro e w2 ⟨rfl, rfl⟩
         go_wp2_with fail
         go_ret
         exact IsB.of HFE.out (by rw [HX.out])
       · have h4' : (cl == 4) = false := by simp [h4]
         rw [if_neg (by omega)] at hri
         clear h0 h4
         have HRI2 := Lib.hid hri
         clear hri
         go_wp2_with fail
         refine (HCL.out _).mono ?_
         rintro e w2 ⟨rfl, rfl⟩
         obtain ⟨wo, rfl⟩ : ∃ wo, wo = wr := ⟨wr, rfl⟩
         go_wp2_with fail
         go_loopw [9] (fun kv wi => ∃ (k : Nat), kv = .int .i64 (k : Int) ∧ k ≤ 9 ∧ Fr (fun _ => False) wo wi ∧ rBad n k = rBad n 0) (fun kv _ => 9 - (intOf kv).toNat)
         case atStart => exact ⟨0, rfl, Nat.zero_le _, Fr.refl _ _, rfl⟩
         case round =>
          obtain ⟨k, rfl, hk, hfi, hbd⟩ := hrel
          have HFI := Lib.hid hfi
          have hszi := hfi.size
          have hck2 : wr.cell? ⟨g, i, none⟩ = some (.int .i64 n) := by
           have hrow := ownsRow_fr HROW.out (HFR.out.trans' hfi) (fun _ _ h => h)
           rw [← hck]
           unfold World.cell?
           rw [hfi.block g (by omega) (fun h => h)]
          clear hck hfi
          by_cases hk9 : k < 9
          · have hk9' : (k : Int) < 9 := by omega
            have hkx : ∀ w : World, (Instr.index 9 (.string ⟨#[60, 62, 34, 123, 125, 124, 94, 96, 92]⟩) (.int .i64 (k : Int))).run Tryz.prog w = .ok (.int .u8 (byteAt badS k)) w := run_index_at (s := badS) (i := k) hk9
            have hbl := byteAt_le badS k
            rw [rBad_step n k hk9] at hbd
            generalize byteAt badS k = b at *
            by_cases hb : n = b
            · subst hb
              have HX := Lib.hid (show ri = false by rw [← HRI2.out, ← hbd]; simp)
              clear hbd
              go_wp2_with fail
              go_quiet (fail)
              go_wp2_with fail
              go_ret
              exact IsB.of (HFE.out.trans' (HFI.out.drewN _)) (by rw [HX.out])
            · have hb' : (n == b) = false := by simp [hb]
              rw [hb'] at hbd
              have HX := Lib.hid hbd
              clear hbd hb
              go_wp2_with fail
              go_quiet (fail)
              go_wp2_with fail
              go_roundw
              case rel => exact ⟨k + 1, by go_num, by omega, HFI.out.drewN _, by have h := HX.out; simpa using h⟩
              case measure => simp [intOf]; omega
          · have hk9' : (9 : Int) ≤ (k : Int) := by omega
            have hkn : ¬ (k : Int) < 9 := by omega
            rw [rBad_end n k hk9] at hbd
            have HX := Lib.hid (show rIriFrom l (i + 1) (rColon n i colon) = ri by rw [← HRI2.out, ← hbd]; simp)
            clear hbd hk9
            by_cases h58 : n = 58
            · subst h58
              by_cases hc : colon < 0
              · have hc' : decide (colon < 0) = true := decide_eq_true hc
                have HY := Lib.hid (show rIriFrom l (i + 1) (i : Int) = ri by have h := HX.out; unfold rColon at h; rw [if_pos ⟨rfl, hc⟩] at h; exact h)
                go_wp2_with fail
                go_roundw
                case rel => exact ⟨(i : Int), i + 1, by go_num, by go_num, by omega, HFR.out.trans' HFI.out, HY.out⟩
                case measure => simp [intOf]; omega
              · have hc' : decide (colon < 0) = false := decide_eq_false hc
                have HY := Lib.hid (show rIriFrom l (i + 1) colon = ri by have h := HX.out; unfold rColon at h; rw [if_neg (fun h => hc h.2)] at h; exact h)
                go_wp2_with fail
                go_roundw
                case rel => exact ⟨colon, i + 1, by go_num, by go_num, by omega, HFR.out.trans' HFI.out, HY.out⟩
                case measure => simp [intOf]; omega
            · have h58' : (n == 58) = false := by simp [h58]
              have HY := Lib.hid (show rIriFrom l (i + 1) colon = ri by have h := HX.out; unfold rColon at h; rw [if_neg (fun h => h58 h.1)] at h; exact h)
              clear h58
              go_wp2_with fail
              go_roundw
              case rel => exact ⟨colon, i + 1, by go_num, by go_num, by omega, HFR.out.trans' HFI.out, HY.out⟩
              case measure => simp [intOf]; omega
   · have hge : (l.length : Int) ≤ (i : Int) := by omega
     have hnl : ¬ (i : Int) < (l.length : Int) := by omega
     rw [rIriFrom_end l i colon hlt] at hri
     have HX := Lib.hid hri.symm
     clear hri hlt
     go_wp2_with fail
     go_ret
     exact IsB.of HFE.out (by rw [HX.out])

def rLit (a b c : ByteArray) : Bool := (rSigns a).2 && (decide (a.size ≤ 4096) && (rIri b && (if c.toList.isEmpty = true then !(b.toList == [104, 116, 116, 112, 58, 47, 47, 119, 119, 119, 46, 119, 51, 46, 111, 114, 103, 47, 49, 57, 57, 57, 47, 48, 50, 47, 50, 50, 45, 114, 100, 102, 45, 115, 121, 110, 116, 97, 120, 45, 110, 115, 35, 108, 97, 110, 103, 83, 116, 114, 105, 110, 103]) else (b.toList == [104, 116, 116, 112, 58, 47, 47, 119, 119, 119, 46, 119, 51, 46, 111, 114, 103, 47, 49, 57, 57, 57, 47, 48, 50, 47, 50, 50, 45, 114, 100, 102, 45, 115, 121, 110, 116, 97, 120, 45, 110, 115, 35, 108, 97, 110, 103, 83, 116, 114, 105, 110, 103]) && rLang c)))
def rGood (x : DT) : Bool := if x.kind = 0 then rLabel x.text else if x.kind = 1 then rIri x.text else rLit x.text x.type x.lang

theorem rgood_any (x : DT) (w : World) (hk0 : 0 ≤ x.kind) (hk2 : x.kind ≤ 2) (ha : x.text.size ≤ 16384) (hb : x.type.size ≤ 16384) (hc : x.lang.size ≤ 16384) : Calls Tryz.prog 91 #[.agg x.cells] w (IsB (rGood x) w) := by
 obtain ⟨k, a, b, c⟩ := x
 simp only at hk0 hk2 ha hb hc
 unfold rGood DT.cells
 simp only
 have F0 : Fr (fun _ => False) w (w.alloc (.cells #[.int .i64 k, .string a, .string b, .string c] 34)) := (Fr.refl _ _).alloc _
 have hbl := Blk.new w 34 #[.int .i64 k, .string a, .string b, .string c]
 have HLA := Lib.hid (fun w => rlabel_any a w ha)
 have HIA := Lib.hid (fun w => riri_any a w ha)
 by_cases h0 : k = 0
 · subst h0
   rw [if_pos rfl]
   generalize rLabel a = r at *
   go_enter Tryz.func91, Tryz.ntmps91
   go_wp2_with fail
   refine (HLA.out _).mono ?_
   rintro e w1 ⟨rfl, rfl⟩
   go_wp2_with fail
   go_ret
   exact IsB.of F0 (by simp)
 · by_cases h1 : k = 1
   · subst h1
     rw [if_neg (by decide), if_pos rfl]
     clear h0
     generalize rIri a = r at *
     go_enter Tryz.func91, Tryz.ntmps91
     go_wp2_with fail
     refine (HIA.out _).mono ?_
     rintro e w1 ⟨rfl, hf1⟩
     have HF1 := Lib.hid (F0.trans' hf1)
     clear hf1
     go_wp2_with fail
     go_ret
     exact IsB.of HF1.out (by simp)
   · have h2 : k = 2 := by omega
     subst h2
     rw [if_neg (by decide), if_neg (by decide)]
     clear h0 h1 HLA HIA hk0 hk2
     have HIB := Lib.hid (fun w => riri_any b w hb)
     have HLC := Lib.hid (fun w => rlang_any c w hc)
     have HSI := Lib.hid (fun w => signs_any a w ha)
     unfold SignsPost at HSI
     obtain ⟨l, ok, hlo⟩ : ∃ l ok, rSigns a = (l, ok) := ⟨_, _, rfl⟩
     unfold rLit
     rw [hlo] at HSI ⊢
     clear hlo
     dsimp only
     have HSI := Lib.hid (show ∀ w, Calls Tryz.prog 15 #[.string a] w fun e w' => ∃ (A : Option Addr) (c : Nat), e = .returned (.tuple #[.slice A l.length c, .bool ok]) ∧ w'.ownsRow w.heap.size 3 1 (.slice A l.length c) l.length (l.map (.int .i64)) ∧ l.length ≤ a.size ∧ Fr (fun _ => False) w w' from HSI.out)
     by_cases hbig : 4096 < a.size
     · have ha' : decide ((4096 : Int) < (a.size : Int)) = true := decide_eq_true (by omega)
       have ha2 : (4096 : Int) < (a.size : Int) := by omega
       rw [decide_eq_false (by omega : ¬ a.size ≤ 4096), Bool.false_and, Bool.and_false]
       clear HIB HLC
       cases ok with
       | false =>
        go_enter Tryz.func91, Tryz.ntmps91
        go_wp2_with fail
        refine (HSI.out _).mono ?_
        rintro e w1 ⟨A, n, rfl, -, -, hf1⟩
        have hb1 := hbl.fr hf1 (fun h => h)
        have c1 : w1.cell? ⟨w.heap.size, 1, none⟩ = some (.string a) := hb1.cell 1
        have c2 : w1.cell? ⟨w.heap.size, 2, none⟩ = some (.string b) := hb1.cell 2
        have HF1 := Lib.hid (F0.trans' hf1)
        clear hf1 hb1 hbl F0
        go_wp2_with fail
        all_goals (go_ret; exact IsB.of HF1.out (by simp))
       | true =>
        go_enter Tryz.func91, Tryz.ntmps91
        go_wp2_with fail
        refine (HSI.out _).mono ?_
        rintro e w1 ⟨A, n, rfl, -, -, hf1⟩
        have hb1 := hbl.fr hf1 (fun h => h)
        have c1 : w1.cell? ⟨w.heap.size, 1, none⟩ = some (.string a) := hb1.cell 1
        have c2 : w1.cell? ⟨w.heap.size, 2, none⟩ = some (.string b) := hb1.cell 2
        have HF1 := Lib.hid (F0.trans' hf1)
        clear hf1 hb1 hbl F0
        go_wp2_with fail
        all_goals (go_ret; exact IsB.of HF1.out (by simp))
     have ha' : decide ((4096 : Int) < (a.size : Int)) = false := decide_eq_false (by omega)
     have ha2 : ¬ (4096 : Int) < (a.size : Int) := by omega
     rw [decide_eq_true (by omega : a.size ≤ 4096), Bool.true_and]
     generalize rIri b = ib at *
     generalize rLang c = lc at *
     obtain ⟨q, hq⟩ : ∃ q : Bool, (b.toList == [104, 116, 116, 112, 58, 47, 47, 119, 119, 119, 46, 119, 51, 46, 111, 114, 103, 47, 49, 57, 57, 57, 47, 48, 50, 47, 50, 50, 45, 114, 100, 102, 45, 115, 121, 110, 116, 97, 120, 45, 110, 115, 35, 108, 97, 110, 103, 83, 116, 114, 105, 110, 103]) = q := ⟨_, rfl⟩
     obtain ⟨e0, he⟩ : ∃ e : Bool, c.toList.isEmpty = e := ⟨_, rfl⟩
     have he2 : (c.toList == []) = e0 := by rw [← he]; cases c.toList <;> rfl
     rw [hq, he]
     cases ok with
     | false =>
      go_enter Tryz.func91, Tryz.ntmps91
      go_wp2_with fail
      refine (HSI.out _).mono ?_
      rintro e w1 ⟨A, n, rfl, -, -, hf1⟩
      have hb1 := hbl.fr hf1 (fun h => h)
      have c1 : w1.cell? ⟨w.heap.size, 1, none⟩ = some (.string a) := hb1.cell 1
      have c2 : w1.cell? ⟨w.heap.size, 2, none⟩ = some (.string b) := hb1.cell 2
      have HF1 := Lib.hid (F0.trans' hf1)
      have HB1 := Lib.hid hb1
      clear hf1 hb1 hbl F0
      go_wp2_with fail
      all_goals (go_ret; exact IsB.of HF1.out (by simp))
     | true => cases ib with
      | false =>
       go_enter Tryz.func91, Tryz.ntmps91
       go_wp2_with fail
       refine (HSI.out _).mono ?_
       rintro e w1 ⟨A, n, rfl, -, -, hf1⟩
       have hb1 := hbl.fr hf1 (fun h => h)
       have c1 : w1.cell? ⟨w.heap.size, 1, none⟩ = some (.string a) := hb1.cell 1
       have c2 : w1.cell? ⟨w.heap.size, 2, none⟩ = some (.string b) := hb1.cell 2
       have HF1 := Lib.hid (F0.trans' hf1)
       have HB1 := Lib.hid hb1
       clear hf1 hb1 hbl F0
       go_wp2_with fail
       refine (HIB.out _).mono ?_
       rintro e w2 ⟨rfl, hf2⟩
       have hb2 := HB1.out.fr hf2 (fun h => h)
       have d2 : w2.cell? ⟨w.heap.size, 2, none⟩ = some (.string b) := hb2.cell 2
       have d3 : w2.cell? ⟨w.heap.size, 3, none⟩ = some (.string c) := hb2.cell 3
       have HF2 := Lib.hid (HF1.out.trans' hf2)
       clear hf2 hb2 c1 c2
       go_wp2_with fail
       all_goals (go_ret; exact IsB.of HF2.out (by simp))
      | true => cases e0 with
       | true => cases q with
        | true =>
         have he3 : (c.toList != []) = false := by simp [bne, he2]
         have hq2 : (b.toList != [104, 116, 116, 112, 58, 47, 47, 119, 119, 119, 46, 119, 51, 46, 111, 114, 103, 47, 49, 57, 57, 57, 47, 48, 50, 47, 50, 50, 45, 114, 100, 102, 45, 115, 121, 110, 116, 97, 120, 45, 110, 115, 35, 108, 97, 110, 103, 83, 116, 114, 105, 110, 103]) = false := by simp only [bne, hq]; rfl
         go_enter Tryz.func91, Tryz.ntmps91
         go_wp2_with fail
         refine (HSI.out _).mono ?_
         rintro e w1 ⟨A, n, rfl, -, -, hf1⟩
         have hb1 := hbl.fr hf1 (fun h => h)
         have c1 : w1.cell? ⟨w.heap.size, 1, none⟩ = some (.string a) := hb1.cell 1
         have c2 : w1.cell? ⟨w.heap.size, 2, none⟩ = some (.string b) := hb1.cell 2
         have HF1 := Lib.hid (F0.trans' hf1)
         have HB1 := Lib.hid hb1
         clear hf1 hb1 hbl F0
         go_wp2_with fail
         refine (HIB.out _).mono ?_
         rintro e w2 ⟨rfl, hf2⟩
         have hb2 := HB1.out.fr hf2 (fun h => h)
         have d2 : w2.cell? ⟨w.heap.size, 2, none⟩ = some (.string b) := hb2.cell 2
         have d3 : w2.cell? ⟨w.heap.size, 3, none⟩ = some (.string c) := hb2.cell 3
         have HF2 := Lib.hid (HF1.out.trans' hf2)
         clear hf2 hb2 c1 c2
         go_wp2_with fail
         go_ret
         exact IsB.of HF2.out (by simp)
        | false =>
         have he3 : (c.toList != []) = false := by simp [bne, he2]
         have hq2 : (b.toList != [104, 116, 116, 112, 58, 47, 47, 119, 119, 119, 46, 119, 51, 46, 111, 114, 103, 47, 49, 57, 57, 57, 47, 48, 50, 47, 50, 50, 45, 114, 100, 102, 45, 115, 121, 110, 116, 97, 120, 45, 110, 115, 35, 108, 97, 110, 103, 83, 116, 114, 105, 110, 103]) = true := by simp only [bne, hq]; rfl
         go_enter Tryz.func91, Tryz.ntmps91
         go_wp2_with fail
         refine (HSI.out _).mono ?_
         rintro e w1 ⟨A, n, rfl, -, -, hf1⟩
         have hb1 := hbl.fr hf1 (fun h => h)
         have c1 : w1.cell? ⟨w.heap.size, 1, none⟩ = some (.string a) := hb1.cell 1
         have c2 : w1.cell? ⟨w.heap.size, 2, none⟩ = some (.string b) := hb1.cell 2
         have HF1 := Lib.hid (F0.trans' hf1)
         have HB1 := Lib.hid hb1
         clear hf1 hb1 hbl F0
         go_wp2_with fail
         refine (HIB.out _).mono ?_
         rintro e w2 ⟨rfl, hf2⟩
         have hb2 := HB1.out.fr hf2 (fun h => h)
         have d2 : w2.cell? ⟨w.heap.size, 2, none⟩ = some (.string b) := hb2.cell 2
         have d3 : w2.cell? ⟨w.heap.size, 3, none⟩ = some (.string c) := hb2.cell 3
         have HF2 := Lib.hid (HF1.out.trans' hf2)
         clear hf2 hb2 c1 c2
         go_wp2_with fail
         go_ret
         exact IsB.of HF2.out (by simp)
       | false => cases q with
        | false =>
         go_enter Tryz.func91, Tryz.ntmps91
         go_wp2_with fail
         refine (HSI.out _).mono ?_
         rintro e w1 ⟨A, n, rfl, -, -, hf1⟩
         have hb1 := hbl.fr hf1 (fun h => h)
         have c1 : w1.cell? ⟨w.heap.size, 1, none⟩ = some (.string a) := hb1.cell 1
         have c2 : w1.cell? ⟨w.heap.size, 2, none⟩ = some (.string b) := hb1.cell 2
         have HF1 := Lib.hid (F0.trans' hf1)
         have HB1 := Lib.hid hb1
         clear hf1 hb1 hbl F0
         go_wp2_with fail
         refine (HIB.out _).mono ?_
         rintro e w2 ⟨rfl, hf2⟩
         have hb2 := HB1.out.fr hf2 (fun h => h)
         have d2 : w2.cell? ⟨w.heap.size, 2, none⟩ = some (.string b) := hb2.cell 2
         have d3 : w2.cell? ⟨w.heap.size, 3, none⟩ = some (.string c) := hb2.cell 3
         have HF2 := Lib.hid (HF1.out.trans' hf2)
         clear hf2 hb2 c1 c2
         go_wp2_with fail
         go_ret
         exact IsB.of HF2.out (by simp)
        | true =>
         go_enter Tryz.func91, Tryz.ntmps91
         go_wp2_with fail
         refine (HSI.out _).mono ?_
         rintro e w1 ⟨A, n, rfl, -, -, hf1⟩
         have hb1 := hbl.fr hf1 (fun h => h)
         have c1 : w1.cell? ⟨w.heap.size, 1, none⟩ = some (.string a) := hb1.cell 1
         have c2 : w1.cell? ⟨w.heap.size, 2, none⟩ = some (.string b) := hb1.cell 2
         have HF1 := Lib.hid (F0.trans' hf1)
         have HB1 := Lib.hid hb1
         clear hf1 hb1 hbl F0
         go_wp2_with fail
         refine (HIB.out _).mono ?_
         rintro e w2 ⟨rfl, hf2⟩
         have hb2 := HB1.out.fr hf2 (fun h => h)
         have d2 : w2.cell? ⟨w.heap.size, 2, none⟩ = some (.string b) := hb2.cell 2
         have d3 : w2.cell? ⟨w.heap.size, 3, none⟩ = some (.string c) := hb2.cell 3
         have HF2 := Lib.hid (HF1.out.trans' hf2)
         clear hf2 hb2 c1 c2
         go_wp2_with fail
         refine (HLC.out _).mono ?_
         rintro e w3 ⟨rfl, rfl⟩
         go_wp2_with fail
         go_ret
         exact IsB.of HF2.out (by simp)

end Go.Proofs.YtagchljgmjmlcaaGreatDoor
