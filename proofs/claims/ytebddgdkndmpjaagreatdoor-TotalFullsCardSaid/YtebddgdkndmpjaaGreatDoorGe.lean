/- Whether a text is a blank node's label: walked. -/
import Derived.Test.YtebddgdkndmpjaaGreatDoorGd
import Derived.Deep.CutBlock
import Derived.Deep.RegionLawGrows
import Derived.Deep.Cut
import Derived.Deep.CutRange
import Derived.WalkKit
import Derived.WalkLawsBesides
import Derived.WalkSpells
import Derived.Deep.QuietTactic
import Derived.BigRegion
import Derived.BigQuiet
import Derived.Lib.Hide
import Derived.Outline
import Derived.Deep.AppendLies
import Derived.Deep.RegionLaw
import Derived.Deep.RegionWith
import Derived.Deep.RegionHeld3
import Derived.Deep.LoopGhost
import Derived.Deep.DeepFit
import Derived.Laws.ResultCell
import Derived.Laws.RangeAny
import Derived.Deep.MidRow
import Derived.StillTailTactics
import Derived.OpenShut
namespace Go.Proofs.YtebddgdkndmpjaaGreatDoor
set_option linter.unusedVariables false
open Go.RowKit Go

/-- May a sign stand at a place of a label? -/
def blankSign (p : Nat) (r : Int) : Bool := plainOf r || (!decide (p = 0) && (decide (r = 95) || decide (r = 45)))
def blankFrom (s : ByteArray) (p : Nat) : Bool :=
  if h : p < s.size then blankSign p ((Utf8.decode s p).1 : Int) && blankFrom s (p + (Utf8.decode s p).2) else true
termination_by s.size - p
decreasing_by have := width_pos s p h; omega
theorem blankFrom_step (s : ByteArray) (p : Nat) (h : p < s.size) : blankFrom s p = (blankSign p ((Utf8.decode s p).1 : Int) && blankFrom s (p + (Utf8.decode s p).2)) := by
  rw [blankFrom, dif_pos h]
theorem blankFrom_end (s : ByteArray) (p : Nat) (h : ¬ p < s.size) : blankFrom s p = true := by
  rw [blankFrom, dif_neg h]
def blankGood (s : ByteArray) : Bool := blankFrom s 0 && (!s.toList.isEmpty && decide (s.size ≤ 100))

set_option maxRecDepth 100000 in
set_option maxHeartbeats 4000000 in
theorem blank_any (s : ByteArray) (w : World) (hs : s.size ≤ 4096) : Calls Tryz.prog 433 #[.agg #[.string s]] w (IsB (blankGood s) w) := by
  have HBG := Lib.hid (show blankGood s = (blankFrom s 0 && (!s.toList.isEmpty && decide (s.size ≤ 100))) from rfl)
  generalize blankGood s = bg at *
  have F0 : Fr (fun _ => False) w (w.alloc (.cells #[.string s] 196)) := (Fr.refl _ _).alloc _
  have hb := Blk.new w 196 #[.string s]
  have hs' : (s.size : Int) ≤ 4096 := by omega
  go_enter Tryz.func433, Tryz.ntmps433
  go_wp2_with fail
  have hsz : w.heap.size + 1 = (w.alloc (.cells #[.string s] 196)).heap.size := by simp
  have HB := Lib.hid hb
  have HF0 := Lib.hid F0
  go_loopg [] (s.size) (fun g wr => ∃ (p : Nat), s.size ≤ p + g ∧ ItAt wr (w.heap.size + 1) s p ∧ Fr (fun j => w.heap.size + 1 ≤ j) (w.alloc (.cells #[.string s] 196)) wr ∧ blankFrom s p = blankFrom s 0)
  case atStart => exact ⟨0, by omega, by rw [hsz]; exact ItAt.new _ s 0, (Fr.refl _ _).alloc _, rfl⟩
  case round =>
    obtain ⟨p, hg, hit, hf, htx⟩ := hrel
    clear F0 hb
    have hFe := HF0.out.trans' (hf.shut (by simp))
    have HFE := Lib.hid hFe
    have hbr := HB.out.fr hf (by omega)
    have c0 : wr.cell? ⟨w.heap.size, 0, none⟩ = some (.string s) := hbr.cell 0
    by_cases hp : p < s.size
    · have hnx := run_next_it hit hp
      have hwd := width_pos s p hp
      have hit2 := hit.set (p + (Utf8.decode s p).2)
      have hf2 : Fr (fun j => w.heap.size + 1 ≤ j) (w.alloc (.cells #[.string s] 196)) (World.itSet wr (w.heap.size + 1) s (p + (Utf8.decode s p).2)) := hf.trans (hit.frS _) (fun i hi e => by omega)
      rw [blankFrom_step s p hp] at htx
      have hvr := decode_valid s p
      have HIT := Lib.hid hit2
      have HF := Lib.hid hf2
      generalize World.itSet wr (w.heap.size + 1) s (p + (Utf8.decode s p).2) = w3 at *
      generalize (Utf8.decode s p).2 = wd at *
      generalize (Utf8.decode s p).1 = r at *
      have HPL := Lib.hid (fun w => plain_any r w hvr)
      unfold blankSign at htx
      generalize plainOf (r : Int) = pl at *
      have HTX := Lib.hid htx
      clear hit hf hit2 hf2 hsz hbr c0 hFe htx hvr
      have fin : Fr (fun _ => False) w w3 := HF0.out.trans' (HF.out.shut (by simp))
      have FIN := Lib.hid fin
      clear fin
      go_wp2_with fail
      refine (HPL.out w3).mono ?_
      rintro e w4 ⟨rfl, rfl⟩
      cases pl with
      | true =>
        go_wp2_with fail
        go_roundg (s.size - (p + wd))
        case measure => omega
        case rel => exact ⟨p + wd, by omega, HIT.out, HF.out, by have h := HTX.out; simpa using h⟩
      | false =>
        by_cases h0 : p = 0
        · subst h0
          go_wp2_with fail
          go_ret
          exact IsB.of FIN.out (by rw [HBG.out, ← HTX.out]; simp)
        · have HP0 := Lib.hid h0
          have h0' : ((p : Int) == 0) = false := by simp [h0]
          by_cases h1 : (r : Int) = 95
          · have h1' : ((r : Int) != 95) = false := by simp [h1]
            have H1 := Lib.hid h1
            clear h1
            go_wp2_with fail
            go_roundg (s.size - (p + wd))
            case measure => omega
            case rel => exact ⟨p + wd, by omega, HIT.out, HF.out, by have h := HTX.out; simpa [HP0.out, H1.out] using h⟩
          · have h1' : ((r : Int) != 95) = true := by simp [h1]
            have H1 := Lib.hid h1
            clear h1
            by_cases h2 : (r : Int) = 45
            · have h2' : ((r : Int) != 45) = false := by simp [h2]
              have H2 := Lib.hid h2
              clear h2
              go_wp2_with fail
              go_roundg (s.size - (p + wd))
              case measure => omega
              case rel => exact ⟨p + wd, by omega, HIT.out, HF.out, by have h := HTX.out; simpa [HP0.out, H2.out] using h⟩
            · have h2' : ((r : Int) != 45) = true := by simp [h2]
              have H2 := Lib.hid h2
              clear h2
              go_wp2_with fail
              go_ret
              exact IsB.of FIN.out (by rw [HBG.out, ← HTX.out]; simp [H1.out, H2.out])
    · have hnx := run_next_it_end hit hp
      rw [blankFrom_end s p hp] at htx
      have HTX := Lib.hid htx
      clear hit hsz hbr htx
      by_cases he : s.toList = []
      · have he' : s.toList.isEmpty = true := by rw [he]; rfl
        have HE := Lib.hid he'
        clear he
        go_wp2_with fail
        go_ret
        exact IsB.of HFE.out (by rw [HBG.out, HE.out]; simp)
      · have he' : s.toList.isEmpty = false := by
          cases ht : s.toList with
          | nil => exact absurd ht he
          | cons a l => rfl
        have HE := Lib.hid he'
        by_cases hq : s.size ≤ 100
        · have hq1 : decide (s.size ≤ 100) = true := decide_eq_true hq
          have hq2 : decide ((s.size : Int) ≤ 100) = true := decide_eq_true (by omega)
          have hq3 : (s.size : Int) ≤ 100 := by omega
          have HQ := Lib.hid hq1
          go_wp2_with fail
          go_ret
          exact IsB.of HFE.out (by rw [HBG.out, HE.out, ← HTX.out, HQ.out]; rfl)
        · have hq1 : decide (s.size ≤ 100) = false := decide_eq_false hq
          have hq2 : decide ((s.size : Int) ≤ 100) = false := decide_eq_false (by omega)
          have hq3 : (100 : Int) < (s.size : Int) := by omega
          have HQ := Lib.hid hq1
          go_wp2_with fail
          go_ret
          exact IsB.of HFE.out (by rw [HBG.out, HE.out, ← HTX.out, HQ.out]; rfl)

end Go.Proofs.YtebddgdkndmpjaaGreatDoor
