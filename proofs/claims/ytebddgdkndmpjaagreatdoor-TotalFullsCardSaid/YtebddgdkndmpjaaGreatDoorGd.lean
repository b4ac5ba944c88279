/- Whether a text is an IRI's: walked. -/
import Derived.Test.YtebddgdkndmpjaaGreatDoorGc
import Derived.Deep.CutBlock
import Derived.Deep.RegionLawGrows
import Derived.Deep.Cut
import Derived.Deep.CutRange
import Derived.WalkKit
import Derived.WalkLawsBesides
import Derived.WalkSpells
import Derived.Deep.QuietTactic
import Derived.BigRegion
import Derived.BigQuiet
import Derived.Lib.Hide
import Derived.Outline
import Derived.Deep.AppendLies
import Derived.Deep.RegionLaw
import Derived.Deep.RegionWith
import Derived.Deep.RegionHeld3
import Derived.Deep.LoopGhost
import Derived.Deep.DeepFit
import Derived.Laws.ResultCell
import Derived.Laws.RangeAny
import Derived.Deep.MidRow
import Derived.StillTailTactics
import Derived.OpenShut
namespace Go.Proofs.YtebddgdkndmpjaaGreatDoor
set_option linter.unusedVariables false
open Go.RowKit Go

/-- May a sign stand in an IRI? -/
def iriSign (r : Int) : Bool := !(classOf r == 0 || classOf r == 4 || forbOf r)
def iriFrom (s : ByteArray) (p : Nat) : Bool :=
  if h : p < s.size then iriSign ((Utf8.decode s p).1 : Int) && iriFrom s (p + (Utf8.decode s p).2) else true
termination_by s.size - p
decreasing_by have := width_pos s p h; omega
theorem iriFrom_step (s : ByteArray) (p : Nat) (h : p < s.size) : iriFrom s p = (iriSign ((Utf8.decode s p).1 : Int) && iriFrom s (p + (Utf8.decode s p).2)) := by
  rw [iriFrom, dif_pos h]
theorem iriFrom_end (s : ByteArray) (p : Nat) (h : ¬ p < s.size) : iriFrom s p = true := by
  rw [iriFrom, dif_neg h]
/-- Is a text an IRI's? (Of one that isn't too long.) -/
def iriGood (s : ByteArray) : Bool := !decide (Lib.indexByte s.data.toList 58 < 1) && (textFrom s 0 && iriFrom s 0)

set_option maxRecDepth 100000 in
set_option maxHeartbeats 4000000 in
theorem iri_any (s : ByteArray) (w : World) (hs : s.size ≤ 4096) : Calls Tryz.prog 416 #[.agg #[.string s]] w (IsB (iriGood s) w) := by
  have HIG := Lib.hid (show iriGood s = (!decide (Lib.indexByte s.data.toList (58 : Int).toNat.toUInt8 < 1) && (textFrom s 0 && iriFrom s 0)) from rfl)
  generalize iriGood s = ig at *
  have hs' : decide (4096 < (s.size : Int)) = false := decide_eq_false (by omega)
  have HIX := Lib.hid (fun w => Tryz.strings_IndexByte s 58 w)
  have HG := Lib.hid (fun w => good_any s w hs)
  generalize Lib.indexByte s.data.toList (58 : Int).toNat.toUInt8 = ix at HIX HIG
  generalize htf : textFrom s 0 = tf at HG HIG
  clear htf
  have F0 : Fr (fun _ => False) w (w.alloc (.cells #[.string s] 198)) := (Fr.refl _ _).alloc _
  have hb := Blk.new w 198 #[.string s]
  by_cases h1 : ix < 1
  · have h1' : decide (ix < 1) = true := decide_eq_true h1
    go_enter Tryz.func416, Tryz.ntmps416
    go_wp2_with fail
    refine (HIX.out _).mono ?_
    rintro e w1 ⟨rfl, rfl⟩
    go_wp2_with fail
    go_ret
    exact IsB.of F0 (by rw [HIG.out]; simp [h1])
  · have h1' : decide (ix < 1) = false := decide_eq_false h1
    go_enter Tryz.func416, Tryz.ntmps416
    go_wp2_with fail
    refine (HIX.out _).mono ?_
    rintro e w1 ⟨rfl, rfl⟩
    go_wp2_with fail
    refine (HG.out _).mono ?_
    rintro e w2 ⟨rfl, hf2⟩
    have hb2 := hb.fr hf2 (fun h => h)
    have c0 : w2.cell? ⟨w.heap.size, 0, none⟩ = some (.string s) := hb2.cell 0
    have F2 := F0.trans' hf2
    have HF2 := Lib.hid F2
    have hsz2 := F2.size
    clear hf2 hb2 hb F0 F2
    have HH := Lib.hid h1'
    cases tf with
    | false =>
      go_wp2_with fail
      go_ret
      exact IsB.of HF2.out (by rw [HIG.out]; simp)
    | true =>
      go_wp2_with fail
      go_loopg [] (s.size) (fun g wr => ∃ (p : Nat), s.size ≤ p + g ∧ ItAt wr w2.heap.size s p ∧ Fr (fun j => w2.heap.size ≤ j) w2 wr ∧ iriFrom s p = iriFrom s 0)
      case atStart => exact ⟨0, by omega, ItAt.new w2 s 0, (Fr.refl _ _).alloc _, rfl⟩
      case round =>
        obtain ⟨p, hg, hit, hf, htx⟩ := hrel
        clear c0
        by_cases hp : p < s.size
        · have hnx := run_next_it hit hp
          have hwd := width_pos s p hp
          have hit2 := hit.set (p + (Utf8.decode s p).2)
          have hf2 : Fr (fun j => w2.heap.size ≤ j) w2 (World.itSet wr w2.heap.size s (p + (Utf8.decode s p).2)) := hf.trans (hit.frS _) (fun i hi e => by omega)
          rw [iriFrom_step s p hp] at htx
          have hvr := decode_valid s p
          have HIT := Lib.hid hit2
          have HF := Lib.hid hf2
          generalize World.itSet wr w2.heap.size s (p + (Utf8.decode s p).2) = w3 at *
          generalize (Utf8.decode s p).2 = wd at *
          generalize (Utf8.decode s p).1 = r at *
          have hr0 : (0 : Int) ≤ (r : Int) := by omega
          have HC := Lib.hid (fun w => class_any r w hvr)
          have HCO := Lib.hid (fun w => contains_any r w hr0 hvr)
          unfold iriSign at htx
          generalize classOf (r : Int) = c at *
          generalize forbOf (r : Int) = fb at *
          have HTX := Lib.hid htx
          clear hit hf hit2 hf2 htx hvr
          go_wp2_with fail
          refine (HC.out w3).mono ?_
          rintro e w4 ⟨rfl, rfl⟩
          by_cases h2 : c = 0
          · have h2' : (c == 0) = true := by simp [h2]
            have H2 := Lib.hid h2
            clear h2
            go_wp2_with fail
            go_ret
            exact IsB.of (HF2.out.trans' (HF.out.shut (Nat.le_refl _))) (by rw [HIG.out, ← HTX.out, H2.out]; simp)
          · have h2' : (c == 0) = false := by simp [h2]
            by_cases h3 : c = 4
            · have h3' : (c == 4) = true := by simp [h3]
              have H3 := Lib.hid h3
              clear h2 h3
              go_wp2_with fail
              go_ret
              exact IsB.of (HF2.out.trans' (HF.out.shut (Nat.le_refl _))) (by rw [HIG.out, ← HTX.out, H3.out]; simp)
            · have h3' : (c == 4) = false := by simp [h3]
              clear h2 h3
              go_wp2_with fail
              refine (HCO.out w3).mono ?_
              rintro e w4 ⟨rfl, hf4⟩
              have HF4 := Lib.hid hf4
              clear hf4
              cases fb with
              | true =>
                go_wp2_with fail
                go_ret
                exact IsB.of (HF2.out.trans' ((HF.out.trans HF4.out (fun _ _ h => h.elim)).shut (Nat.le_refl _))) (by rw [HIG.out, ← HTX.out]; simp)
              | false =>
                go_wp2_with fail
                go_roundg (s.size - (p + wd))
                case measure => omega
                case rel => exact ⟨p + wd, by omega, HIT.out.fr HF4.out (fun h => h), HF.out.trans HF4.out (fun _ _ h => h.elim), by have h := HTX.out; rw [h2', h3'] at h; simpa using h⟩
        · have hnx := run_next_it_end hit hp
          rw [iriFrom_end s p hp] at htx
          have HTX := Lib.hid htx
          clear hit htx
          go_wp2_with fail
          go_ret
          exact IsB.of (HF2.out.trans' (hf.shut (Nat.le_refl _))) (by rw [HIG.out, ← HTX.out, HH.out]; simp)

end Go.Proofs.YtebddgdkndmpjaaGreatDoor
