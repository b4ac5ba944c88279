/- The document's answer on IRIs: walked. -/
import Derived.Test.YtflhmieeidnpgaaGreatDoorGr
import Derived.Deep.CutBlock
import Derived.Deep.RegionLawGrows
import Derived.Deep.Cut
import Derived.Deep.CutRange
import Derived.WalkKit
import Derived.WalkLawsBesides
import Derived.WalkSpells
import Derived.Deep.QuietTactic
import Derived.BigRegion
import Derived.BigQuiet
import Derived.Lib.Hide
import Derived.Outline
import Derived.Deep.AppendLies
import Derived.Deep.RegionLaw
import Derived.Deep.RegionWith
import Derived.Deep.RegionHeld3
import Derived.Deep.LoopGhost
import Derived.Deep.DeepFit
import Derived.Laws.ResultCell
import Derived.Laws.RangeAny
import Derived.Deep.MidRow
import Derived.StillTailTactics
import Derived.OpenShut
namespace Go.Proofs.YtflhmieeidnpgaaGreatDoor
set_option linter.unusedVariables false
open Go.RowKit Go


/-- The signs that an IRI may not hold. -/
def badS : ByteArray := ⟨#[60, 62, 34, 123, 125, 124, 94, 96, 92]⟩
def rBad (n : Int) (k : Nat) : Bool := if h : k < 9 then n == byteAt badS k || rBad n (k + 1) else false
termination_by 9 - k
theorem rBad_step (n : Int) (k : Nat) (h : k < 9) : rBad n k = (n == byteAt badS k || rBad n (k + 1)) := by rw [rBad, dif_pos h]
theorem rBad_end (n : Int) (k : Nat) (h : ¬ k < 9) : rBad n k = false := by rw [rBad, dif_neg h]
def rColon (n : Int) (i : Nat) (colon : Int) : Int := if n = 58 ∧ colon < 0 then (i : Int) else colon
def rIriFrom (l : List Int) (i : Nat) (colon : Int) : Bool :=
  if h : i < l.length then
    (if rClass (l.getD i 0) = 0 ∨ rClass (l.getD i 0) = 4 then false else if rBad (l.getD i 0) 0 = true then false else rIriFrom l (i + 1) (rColon (l.getD i 0) i colon))
  else decide (0 < colon)
termination_by l.length - i
theorem rIriFrom_step (l : List Int) (i : Nat) (colon : Int) (h : i < l.length) : rIriFrom l i colon = (if rClass (l.getD i 0) = 0 ∨ rClass (l.getD i 0) = 4 then false else if rBad (l.getD i 0) 0 = true then false else rIriFrom l (i + 1) (rColon (l.getD i 0) i colon)) := by rw [rIriFrom, dif_pos h]
theorem rIriFrom_end (l : List Int) (i : Nat) (colon : Int) (h : ¬ i < l.length) : rIriFrom l i colon = decide (0 < colon) := by rw [rIriFrom, dif_neg h]
def rIri (s : ByteArray) : Bool := (rSigns s).2 && rIriFrom (rSigns s).1 0 (-1)

set_option maxRecDepth 100000 in
set_option maxHeartbeats 4000000 in
theorem riri_any (s : ByteArray) (w : World) (hs : s.size ≤ 4096) : Calls Tryz.prog 54 #[.string s] w (IsB (rIri s) w) := by
  obtain ⟨ri, hri⟩ : ∃ ri, ri = rIri s := ⟨_, rfl⟩
  rw [← hri]
  unfold rIri at hri
  have hs' : (s.size : Int) ≤ 4096 := by omega
  have HSI := Lib.hid (signs_any s w hs)
  unfold SignsPost at HSI
  obtain ⟨l, ok, hlo⟩ : ∃ l ok, rSigns s = (l, ok) := ⟨_, _, rfl⟩
  rw [hlo] at HSI hri
  clear hlo
  have HRI := Lib.hid (show ri = (ok && rIriFrom l 0 (-1)) from hri)
  clear hri
  have HSI := Lib.hid (show Calls Tryz.prog 55 #[.string s] w fun e w' => ∃ (A : Option Addr) (c : Nat), e = .returned (.tuple #[.slice A l.length c, .bool ok]) ∧ w'.ownsRow w.heap.size 3 1 (.slice A l.length c) l.length (l.map (.int .i64)) ∧ l.length ≤ s.size ∧ Fr (fun _ => False) w w' from HSI.out)
  cases ok with
  | false =>
    go_enter Tryz.func54, Tryz.ntmps54
    go_wp2_with fail
    refine HSI.out.mono ?_
    rintro e w1 ⟨A, c, rfl, hrow, hll, hf⟩
    have HF := Lib.hid hf
    clear hf hrow
    go_wp2_with fail
    go_ret
    exact IsB.of HF.out (by rw [HRI.out]; rfl)
  | true =>
    have HRI := Lib.hid (show ri = rIriFrom l 0 (-1) by rw [HRI.out]; rfl)
    go_enter Tryz.func54, Tryz.ntmps54
    go_wp2_with fail
    refine HSI.out.mono ?_
    rintro e w1 ⟨A, c, rfl, hrow, hll, hf⟩
    have HF := Lib.hid hf
    have HROW := Lib.hid hrow
    have hlb : (l.length : Int) ≤ 4096 := by omega
    have hsd : ¬ (4096 : Int) < (s.size : Int) := by omega
    clear hf hrow
    go_wp2_with fail
    go_loopw [5, 24] (fun cv iv wr => ∃ (colon : Int) (i : Nat), cv = .int .i64 colon ∧ iv = .int .i64 (i : Int) ∧ i ≤ l.length ∧ Fr (fun _ => False) w1 wr ∧ rIriFrom l i colon = ri) (fun _ iv _ => l.length - (intOf iv).toNat)
    case atStart => exact ⟨-1, 0, rfl, rfl, Nat.zero_le _, Fr.refl _ _, HRI.out.symm⟩
    case round =>
      obtain ⟨colon, i, rfl, rfl, hi, hfr, hri⟩ := hrel
      have HFE := Lib.hid (HF.out.trans' hfr)
      by_cases hlt : i < l.length
      · have hlt' : (i : Int) < (l.length : Int) := by omega
        obtain ⟨g, hg, -, hgl, hgc⟩ := row_form HROW.out (by omega)
        subst hg
        have hrow := ownsRow_fr HROW.out hfr (fun _ _ h => h)
        have hck : wr.cell? ⟨g, i, none⟩ = some (.int .i64 (l.getD i 0)) := by
          rw [World.ownsRow.cellAt hrow i (by omega), List.getElem?_map, List.getD_eq_getElem?_getD]
          rw [List.getElem?_eq_getElem (by omega)]
          rfl
        rw [rIriFrom_step l i colon hlt] at hri
        generalize l.getD i 0 = n at *
        have HCL := Lib.hid (fun w => rclass_any n w)
        have HFR := Lib.hid hfr
        have hszr := hfr.size
        clear hrow hfr
        generalize rClass n = cl at *
        by_cases h0 : cl = 0
        · subst h0
          have HX := Lib.hid (show ri = false by rw [← hri, if_pos (.inl rfl)])
          clear hri
          go_wp2_with fail
          refine (HCL.out _).mono ?_
          rintro e w2 ⟨rfl, rfl⟩
          go_wp2_with fail
          go_ret
          exact IsB.of HFE.out (by rw [HX.out])
        · have h0' : (cl == 0) = false := by simp [h0]
          by_cases h4 : cl = 4
          · subst h4
            have HX := Lib.hid (show ri = false by rw [← hri, if_pos (.inr rfl)])
            clear hri h0
            go_wp2_with fail
            refine (HCL.out _).mono ?_
            rintro e w2 ⟨rfl, rfl⟩
            go_wp2_with fail
            go_ret
            exact IsB.of HFE.out (by rw [HX.out])
          · have h4' : (cl == 4) = false := by simp [h4]
            rw [if_neg (by omega)] at hri
            clear h0 h4
            have HRI2 := Lib.hid hri
            clear hri
            go_wp2_with fail
            refine (HCL.out _).mono ?_
            rintro e w2 ⟨rfl, rfl⟩
            obtain ⟨wo, rfl⟩ : ∃ wo, wo = wr := ⟨wr, rfl⟩
            go_wp2_with fail
            go_loopw [9] (fun kv wi => ∃ (k : Nat), kv = .int .i64 (k : Int) ∧ k ≤ 9 ∧ Fr (fun _ => False) wo wi ∧ rBad n k = rBad n 0) (fun kv _ => 9 - (intOf kv).toNat)
            case atStart => exact ⟨0, rfl, Nat.zero_le _, Fr.refl _ _, rfl⟩
            case round =>
              obtain ⟨k, rfl, hk, hfi, hbd⟩ := hrel
              have HFI := Lib.hid hfi
              have hszi := hfi.size
              have hck2 : wr.cell? ⟨g, i, none⟩ = some (.int .i64 n) := by
                have hrow := ownsRow_fr HROW.out (HFR.out.trans' hfi) (fun _ _ h => h)
                rw [← hck]
                unfold World.cell?
                rw [hfi.block g (by omega) (fun h => h)]
              clear hck hfi
              by_cases hk9 : k < 9
              · have hk9' : (k : Int) < 9 := by omega
                have hkx : ∀ w : World, (Instr.index 9 (.string ⟨#[60, 62, 34, 123, 125, 124, 94, 96, 92]⟩) (.int .i64 (k : Int))).run Tryz.prog w = .ok (.int .u8 (byteAt badS k)) w := run_index_at (s := badS) (i := k) hk9
                have hbl := byteAt_le badS k
                rw [rBad_step n k hk9] at hbd
                generalize byteAt badS k = b at *
                by_cases hb : n = b
                · subst hb
                  have HX := Lib.hid (show ri = false by rw [← HRI2.out, ← hbd]; simp)
                  clear hbd
                  go_wp2_with fail
                  go_quiet (fail)
                  go_wp2_with fail
                  go_ret
                  exact IsB.of (HFE.out.trans' (HFI.out.drewN _)) (by rw [HX.out])
                · have hb' : (n == b) = false := by simp [hb]
                  rw [hb'] at hbd
                  have HX := Lib.hid hbd
                  clear hbd hb
                  go_wp2_with fail
                  go_quiet (fail)
                  go_wp2_with fail
                  go_roundw
                  case rel => exact ⟨k + 1, by go_num, by omega, HFI.out.drewN _, by have h := HX.out; simpa using h⟩
                  case measure => simp [intOf]; omega
              · have hk9' : (9 : Int) ≤ (k : Int) := by omega
                have hkn : ¬ (k : Int) < 9 := by omega
                rw [rBad_end n k hk9] at hbd
                have HX := Lib.hid (show rIriFrom l (i + 1) (rColon n i colon) = ri by rw [← HRI2.out, ← hbd]; simp)
                clear hbd hk9
                by_cases h58 : n = 58
                · subst h58
                  by_cases hc : colon < 0
                  · have hc' : decide (colon < 0) = true := decide_eq_true hc
                    have HY := Lib.hid (show rIriFrom l (i + 1) (i : Int) = ri by have h := HX.out; unfold rColon at h; rw [if_pos ⟨rfl, hc⟩] at h; exact h)
                    go_wp2_with fail
                    go_roundw
                    case rel => exact ⟨(i : Int), i + 1, by go_num, by go_num, by omega, HFR.out.trans' HFI.out, HY.out⟩
                    case measure => simp [intOf]; omega
                  · have hc' : decide (colon < 0) = false := decide_eq_false hc
                    have HY := Lib.hid (show rIriFrom l (i + 1) colon = ri by have h := HX.out; unfold rColon at h; rw [if_neg (fun h => hc h.2)] at h; exact h)
                    go_wp2_with fail
                    go_roundw
                    case rel => exact ⟨colon, i + 1, by go_num, by go_num, by omega, HFR.out.trans' HFI.out, HY.out⟩
                    case measure => simp [intOf]; omega
                · have h58' : (n == 58) = false := by simp [h58]
                  have HY := Lib.hid (show rIriFrom l (i + 1) colon = ri by have h := HX.out; unfold rColon at h; rw [if_neg (fun h => h58 h.1)] at h; exact h)
                  clear h58
                  go_wp2_with fail
                  go_roundw
                  case rel => exact ⟨colon, i + 1, by go_num, by go_num, by omega, HFR.out.trans' HFI.out, HY.out⟩
                  case measure => simp [intOf]; omega
      · have hge : (l.length : Int) ≤ (i : Int) := by omega
        have hnl : ¬ (i : Int) < (l.length : Int) := by omega
        rw [rIriFrom_end l i colon hlt] at hri
        have HX := Lib.hid hri.symm
        clear hri hlt
        go_wp2_with fail
        go_ret
        exact IsB.of HFE.out (by rw [HX.out])

end Go.Proofs.YtflhmieeidnpgaaGreatDoor
