/- The document's answer on languages: walked. -/
import Derived.Test.YtflhmieeidnpgaaGreatDoorGn
import Derived.Deep.CutBlock
import Derived.Deep.RegionLawGrows
import Derived.Deep.Cut
import Derived.Deep.CutRange
import Derived.WalkKit
import Derived.WalkLawsBesides
import Derived.WalkSpells
import Derived.Deep.QuietTactic
import Derived.BigRegion
import Derived.BigQuiet
import Derived.Lib.Hide
import Derived.Outline
import Derived.Deep.AppendLies
import Derived.Deep.RegionLaw
import Derived.Deep.RegionWith
import Derived.Deep.RegionHeld3
import Derived.Deep.LoopGhost
import Derived.Deep.DeepFit
import Derived.Laws.ResultCell
import Derived.Laws.RangeAny
import Derived.Deep.MidRow
import Derived.StillTailTactics
import Derived.OpenShut
namespace Go.Proofs.YtflhmieeidnpgaaGreatDoor
set_option linter.unusedVariables false
open Go.RowKit Go

/-- What the document asks of a language's bytes from a place on: in part 'part', behind 'long' of its signs. -/
def rLangFrom (s : ByteArray) (i part long : Nat) : Bool :=
  if h : i < s.size then
    (if byteAt s i = 45 then !decide (long = 0) && rLangFrom s (i + 1) (part + 1) 0
     else (letterB (byteAt s i) || (!decide (part = 0) && digitB (byteAt s i))) && (decide (long < 8) && rLangFrom s (i + 1) part (long + 1)))
  else decide (0 < long)
termination_by s.size - i
theorem rLangFrom_step (s : ByteArray) (i part long : Nat) (h : i < s.size) : rLangFrom s i part long = (if byteAt s i = 45 then !decide (long = 0) && rLangFrom s (i + 1) (part + 1) 0
     else (letterB (byteAt s i) || (!decide (part = 0) && digitB (byteAt s i))) && (decide (long < 8) && rLangFrom s (i + 1) part (long + 1))) := by rw [rLangFrom, dif_pos h]
theorem rLangFrom_end (s : ByteArray) (i part long : Nat) (h : ¬ i < s.size) : rLangFrom s i part long = decide (0 < long) := by rw [rLangFrom, dif_neg h]
def rLang (s : ByteArray) : Bool := decide (1 ≤ s.size) && (decide (s.size ≤ 40) && rLangFrom s 0 0 0)

set_option maxRecDepth 100000 in
set_option maxHeartbeats 4000000 in
theorem rlang_any (s : ByteArray) (w : World) (hs : s.size ≤ 4096) : Calls Tryz.prog 56 #[.string s] w fun e w' => e = .returned (.bool (rLang s)) ∧ w = w' := by
  have HRL := Lib.hid (show rLang s = (decide (1 ≤ s.size) && (decide (s.size ≤ 40) && rLangFrom s 0 0 0)) from rfl)
  generalize rLang s = rl at *
  by_cases h1 : s.size < 1
  · have h1e : decide ((s.size : Int) < 1) = true := decide_eq_true (by omega)
    have h1' : decide (s.size < 1) = true := decide_eq_true h1
    have h1f : (s.size : Int) < 1 := by omega
    have HH := Lib.hid (show decide (1 ≤ s.size) = false from decide_eq_false (by omega))
    clear h1
    go_enter Tryz.func56, Tryz.ntmps56
    go_wp2_with fail
    go_ret
    exact ⟨by rw [HRL.out, HH.out]; rfl, rfl⟩
  · have h1e : decide ((s.size : Int) < 1) = false := decide_eq_false (by omega)
    by_cases h2 : 40 < s.size
    · have h2e : decide ((40 : Int) < (s.size : Int)) = true := decide_eq_true (by omega)
      have HH := Lib.hid (show decide (s.size ≤ 40) = false from decide_eq_false (by omega))
      go_enter Tryz.func56, Tryz.ntmps56
      go_wp2_with fail
      go_ret
      exact ⟨by rw [HRL.out, HH.out]; simp, rfl⟩
    · have h2e : decide ((40 : Int) < (s.size : Int)) = false := decide_eq_false (by omega)
      have HH := Lib.hid (show decide (1 ≤ s.size) = true ∧ decide (s.size ≤ 40) = true from ⟨decide_eq_true (by omega), decide_eq_true (by omega)⟩)
      have hs2 : (s.size : Int) ≤ 40 := by omega
      clear h1 h2
      go_enter Tryz.func56, Tryz.ntmps56
      go_wp2_with fail
      clear h1e h2e
      go_loopw [3, 4, 5] (fun pv lv iv wr => ∃ i part long : Nat, pv = .int .i64 (part : Int) ∧ lv = .int .i64 (long : Int) ∧ iv = .int .i64 (i : Int) ∧ i ≤ s.size ∧ part ≤ i ∧ long ≤ 8 ∧ wr = w ∧ rLangFrom s i part long = rLangFrom s 0 0 0) (fun _ _ iv _ => s.size - (intOf iv).toNat)
      case atStart => exact ⟨0, 0, 0, rfl, rfl, rfl, Nat.zero_le _, Nat.le_refl _, by omega, rfl, rfl⟩
      case round =>
        obtain ⟨i, part, long, rfl, rfl, rfl, hi, hpi, hl8, rfl, htx⟩ := hrel
        by_cases hlt : i < s.size
        · have hlt' : (i : Int) < (s.size : Int) := by omega
          have hix := run_index_at hlt
          rw [rLangFrom_step s i part long hlt] at htx
          have hbl := byteAt_le s i
          generalize byteAt s i = c at *
          have HLE := Lib.hid (fun w => letter_any c w)
          have HDI := Lib.hid (fun w => digit_any c w)
          generalize letterB c = lb at *
          generalize digitB c = db at *
          by_cases h45 : c = 45
          · have h45' : (c == 45) = true := by simp [h45]
            rw [if_pos h45] at htx
            have HTX := Lib.hid htx
            clear h45 htx
            by_cases hl0 : long = 0
            · subst hl0
              go_wp2_with fail
              go_ret
              exact ⟨by rw [HRL.out, ← HTX.out]; simp, rfl⟩
            · have hl0' : ((long : Int) == 0) = false := by simp [hl0]
              have HL0 := Lib.hid hl0
              clear hl0
              go_wp2_with fail
              go_roundw
              case rel => exact ⟨i + 1, part + 1, 0, by go_num, rfl, by go_num, by omega, by omega, by omega, by simp, by have h := HTX.out; simpa [HL0.out] using h⟩
              case measure => simp [intOf]; omega
          · have h45' : (c == 45) = false := by simp [h45]
            rw [if_neg h45] at htx
            have HTX := Lib.hid htx
            clear h45 htx
            cases lb with
            | true =>
              by_cases h8 : 8 ≤ long
              · have h8' : (8 : Int) < (long : Int) + 1 := by omega
                have H8 := Lib.hid (show decide (long < 8) = false from decide_eq_false (by omega))
                go_wp2_with fail
                refine (HLE.out _).mono ?_
                rintro e w1 ⟨rfl, rfl⟩
                go_wp2_with fail
                go_ret
                exact ⟨by rw [HRL.out, ← HTX.out, H8.out]; simp, rfl⟩
              · have h8' : (long : Int) + 1 ≤ 8 := by omega
                have H8 := Lib.hid (show decide (long < 8) = true from decide_eq_true (by omega))
                have h8e : ¬ (8 : Int) < (long : Int) + 1 := by omega
                go_wp2_with fail
                refine (HLE.out _).mono ?_
                rintro e w1 ⟨rfl, rfl⟩
                go_wp2_with fail
                go_roundw
                case rel => exact ⟨i + 1, part, long + 1, rfl, by go_num, by go_num, by omega, by omega, by omega, by simp, by have h := HTX.out; rw [H8.out] at h; simpa using h⟩
                case measure => simp [intOf]; omega
            | false =>
              by_cases hp0 : part = 0
              · subst hp0
                go_wp2_with fail
                refine (HLE.out _).mono ?_
                rintro e w1 ⟨rfl, rfl⟩
                go_wp2_with fail
                go_ret
                exact ⟨by rw [HRL.out, ← HTX.out]; simp, rfl⟩
              · have hp0' : ((part : Int) == 0) = false := by simp [hp0]
                have HP0 := Lib.hid hp0
                clear hp0
                cases db with
                | false =>
                  go_wp2_with fail
                  refine (HLE.out _).mono ?_
                  rintro e w1 ⟨rfl, rfl⟩
                  go_wp2_with fail
                  refine (HDI.out _).mono ?_
                  rintro e w1 ⟨rfl, rfl⟩
                  go_wp2_with fail
                  go_ret
                  exact ⟨by rw [HRL.out, ← HTX.out]; simp, rfl⟩
                | true =>
                  by_cases h8 : 8 ≤ long
                  · have h8' : (8 : Int) < (long : Int) + 1 := by omega
                    have H8 := Lib.hid (show decide (long < 8) = false from decide_eq_false (by omega))
                    go_wp2_with fail
                    refine (HLE.out _).mono ?_
                    rintro e w1 ⟨rfl, rfl⟩
                    go_wp2_with fail
                    refine (HDI.out _).mono ?_
                    rintro e w1 ⟨rfl, rfl⟩
                    go_wp2_with fail
                    go_ret
                    exact ⟨by rw [HRL.out, ← HTX.out, H8.out]; simp, rfl⟩
                  · have h8' : (long : Int) + 1 ≤ 8 := by omega
                    have H8 := Lib.hid (show decide (long < 8) = true from decide_eq_true (by omega))
                    have h8e : ¬ (8 : Int) < (long : Int) + 1 := by omega
                    go_wp2_with fail
                    refine (HLE.out _).mono ?_
                    rintro e w1 ⟨rfl, rfl⟩
                    go_wp2_with fail
                    refine (HDI.out _).mono ?_
                    rintro e w1 ⟨rfl, rfl⟩
                    go_wp2_with fail
                    go_roundw
                    case rel => exact ⟨i + 1, part, long + 1, rfl, by go_num, by go_num, by omega, by omega, by omega, by simp, by have h := HTX.out; rw [H8.out] at h; simpa [HP0.out] using h⟩
                    case measure => simp [intOf]; omega
        · have hge : (s.size : Int) ≤ (i : Int) := by omega
          rw [rLangFrom_end s i part long hlt] at htx
          have HTX := Lib.hid htx
          clear htx hlt
          by_cases hl0 : long = 0
          · subst hl0
            go_wp2_with fail
            go_ret
            exact ⟨by rw [HRL.out, ← HTX.out, HH.out.1, HH.out.2]; rfl, rfl⟩
          · have hl1 : (0 : Int) < (long : Int) := by omega
            have hl2 : decide (0 < long) = true := decide_eq_true (by omega)
            have HL2 := Lib.hid hl2
            clear hl0
            go_wp2_with fail
            go_ret
            exact ⟨by rw [HRL.out, ← HTX.out, HH.out.1, HH.out.2, HL2.out]; rfl, rfl⟩

end Go.Proofs.YtflhmieeidnpgaaGreatDoor
