/- Whether a literal may be: walked. -/
import Derived.Test.YtebddgdkndmpjaaGreatDoorGg
import Derived.Deep.CutBlock
import Derived.Deep.RegionLawGrows
import Derived.Deep.Cut
import Derived.Deep.CutRange
import Derived.WalkKit
import Derived.WalkLawsBesides
import Derived.WalkSpells
import Derived.Deep.QuietTactic
import Derived.BigRegion
import Derived.BigQuiet
import Derived.Lib.Hide
import Derived.Outline
import Derived.Deep.AppendLies
import Derived.Deep.RegionLaw
import Derived.Deep.RegionWith
import Derived.Deep.RegionHeld3
import Derived.Deep.LoopGhost
import Derived.Deep.DeepFit
import Derived.Laws.ResultCell
import Derived.Laws.RangeAny
import Derived.Deep.MidRow
import Derived.StillTailTactics
import Derived.OpenShut
namespace Go.Proofs.YtebddgdkndmpjaaGreatDoor
set_option linter.unusedVariables false
open Go.RowKit Go

/-- Whether a literal may be. (Of texts that aren't too long.) -/
def litGood (a b c : ByteArray) : Bool := textFrom a 0 && (((b.toList == [104, 116, 116, 112, 58, 47, 47, 119, 119, 119, 46, 119, 51, 46, 111, 114, 103, 47, 49, 57, 57, 57, 47, 48, 50, 47, 50, 50, 45, 114, 100, 102, 45, 115, 121, 110, 116, 97, 120, 45, 110, 115, 35, 108, 97, 110, 103, 83, 116, 114, 105, 110, 103]) == !c.toList.isEmpty) && (iriGood b && (c.toList.isEmpty || langOf c)))

set_option maxRecDepth 100000 in
set_option maxHeartbeats 4000000 in
theorem literal_any (a b c : ByteArray) (w : World) (ha : a.size ≤ 4096) (hb : b.size ≤ 4096) (hc : c.size ≤ 4096) : Calls Tryz.prog 414 #[.agg #[.string a, .string b, .string c]] w (IsB (litGood a b c) w) := by
  have HLG := Lib.hid (show litGood a b c = (textFrom a 0 && (((b.toList == [104, 116, 116, 112, 58, 47, 47, 119, 119, 119, 46, 119, 51, 46, 111, 114, 103, 47, 49, 57, 57, 57, 47, 48, 50, 47, 50, 50, 45, 114, 100, 102, 45, 115, 121, 110, 116, 97, 120, 45, 110, 115, 35, 108, 97, 110, 103, 83, 116, 114, 105, 110, 103]) == !c.toList.isEmpty) && (iriGood b && (c.toList.isEmpty || langOf c)))) from rfl)
  generalize litGood a b c = lg at *
  have ha' : decide ((4096 : Int) < (a.size : Int)) = false := decide_eq_false (by omega)
  have HG := Lib.hid (fun w => good_any a w ha)
  have HI := Lib.hid (fun w => iri_any b w hb)
  have HL := Lib.hid (fun w => lang_any c w hc)
  generalize textFrom a 0 = tf at *
  generalize iriGood b = ig at *
  generalize langOf c = lo at *
  have F0 : Fr (fun _ => False) w (w.alloc (.cells #[.string a, .string b, .string c] 78)) := (Fr.refl _ _).alloc _
  have hbl := Blk.new w 78 #[.string a, .string b, .string c]
  have hq : ∃ q : Bool, (b.toList == [104, 116, 116, 112, 58, 47, 47, 119, 119, 119, 46, 119, 51, 46, 111, 114, 103, 47, 49, 57, 57, 57, 47, 48, 50, 47, 50, 50, 45, 114, 100, 102, 45, 115, 121, 110, 116, 97, 120, 45, 110, 115, 35, 108, 97, 110, 103, 83, 116, 114, 105, 110, 103]) = q := ⟨_, rfl⟩
  obtain ⟨q, hq⟩ := hq
  have he : ∃ e : Bool, c.toList.isEmpty = e := ⟨_, rfl⟩
  obtain ⟨e, he⟩ := he
  have HQ := Lib.hid hq
  have HE := Lib.hid he
  cases q with
  | false => cases e with
    | false =>
      go_enter Tryz.func414, Tryz.ntmps414
      go_wp2_with fail
      refine (HG.out _).mono ?_
      rintro e w1 ⟨rfl, hf1⟩
      have hb1 := hbl.fr hf1 (fun h => h)
      have c0 : w1.cell? ⟨w.heap.size, 0, none⟩ = some (.string a) := hb1.cell 0
      have c1 : w1.cell? ⟨w.heap.size, 1, none⟩ = some (.string b) := hb1.cell 1
      have c2 : w1.cell? ⟨w.heap.size, 2, none⟩ = some (.string c) := hb1.cell 2
      have HF1 := Lib.hid (F0.trans' hf1)
      have HB1 := Lib.hid hb1
      clear hf1 hb1 hbl F0
      cases tf with
      | false =>
        go_wp2_with fail
        go_ret
        exact IsB.of HF1.out (by rw [HLG.out]; rfl)
      | true =>
        go_wp2_with fail
        go_ret
        exact IsB.of HF1.out (by rw [HLG.out, HQ.out, HE.out]; rfl)
    | true =>
      go_enter Tryz.func414, Tryz.ntmps414
      go_wp2_with fail
      refine (HG.out _).mono ?_
      rintro e w1 ⟨rfl, hf1⟩
      have hb1 := hbl.fr hf1 (fun h => h)
      have c0 : w1.cell? ⟨w.heap.size, 0, none⟩ = some (.string a) := hb1.cell 0
      have c1 : w1.cell? ⟨w.heap.size, 1, none⟩ = some (.string b) := hb1.cell 1
      have c2 : w1.cell? ⟨w.heap.size, 2, none⟩ = some (.string c) := hb1.cell 2
      have HF1 := Lib.hid (F0.trans' hf1)
      have HB1 := Lib.hid hb1
      clear hf1 hb1 hbl F0
      cases tf with
      | false =>
        go_wp2_with fail
        go_ret
        exact IsB.of HF1.out (by rw [HLG.out]; rfl)
      | true =>
        go_wp2_with fail
        refine (HI.out _).mono ?_
        rintro e w2 ⟨rfl, hf2⟩
        have hb2 := HB1.out.fr hf2 (fun h => h)
        have c1' : w2.cell? ⟨w.heap.size, 1, none⟩ = some (.string b) := hb2.cell 1
        have c2' : w2.cell? ⟨w.heap.size, 2, none⟩ = some (.string c) := hb2.cell 2
        have HF2 := Lib.hid (HF1.out.trans' hf2)
        clear c0 c1 c2 hf2 hb2 HB1
        cases ig with
        | false =>
          go_wp2_with fail
          go_ret
          exact IsB.of HF2.out (by rw [HLG.out, HQ.out, HE.out]; rfl)
        | true =>
          go_wp2_with fail
          first
            | (go_ret
               exact IsB.of HF2.out (by rw [HLG.out, HQ.out, HE.out]; rfl))
            | (refine (HL.out _).mono ?_
               rintro e w3 ⟨rfl, hf3⟩
               have HF3 := Lib.hid (HF2.out.trans' hf3)
               clear hf3
               go_wp2_with fail
               go_ret
               exact IsB.of HF3.out (by rw [HLG.out, HQ.out, HE.out]; simp))
  | true => cases e with
    | false =>
      go_enter Tryz.func414, Tryz.ntmps414
      go_wp2_with fail
      refine (HG.out _).mono ?_
      rintro e w1 ⟨rfl, hf1⟩
      have hb1 := hbl.fr hf1 (fun h => h)
      have c0 : w1.cell? ⟨w.heap.size, 0, none⟩ = some (.string a) := hb1.cell 0
      have c1 : w1.cell? ⟨w.heap.size, 1, none⟩ = some (.string b) := hb1.cell 1
      have c2 : w1.cell? ⟨w.heap.size, 2, none⟩ = some (.string c) := hb1.cell 2
      have HF1 := Lib.hid (F0.trans' hf1)
      have HB1 := Lib.hid hb1
      clear hf1 hb1 hbl F0
      cases tf with
      | false =>
        go_wp2_with fail
        go_ret
        exact IsB.of HF1.out (by rw [HLG.out]; rfl)
      | true =>
        go_wp2_with fail
        refine (HI.out _).mono ?_
        rintro e w2 ⟨rfl, hf2⟩
        have hb2 := HB1.out.fr hf2 (fun h => h)
        have c1' : w2.cell? ⟨w.heap.size, 1, none⟩ = some (.string b) := hb2.cell 1
        have c2' : w2.cell? ⟨w.heap.size, 2, none⟩ = some (.string c) := hb2.cell 2
        have HF2 := Lib.hid (HF1.out.trans' hf2)
        clear c0 c1 c2 hf2 hb2 HB1
        cases ig with
        | false =>
          go_wp2_with fail
          go_ret
          exact IsB.of HF2.out (by rw [HLG.out, HQ.out, HE.out]; rfl)
        | true =>
          go_wp2_with fail
          first
            | (go_ret
               exact IsB.of HF2.out (by rw [HLG.out, HQ.out, HE.out]; rfl))
            | (refine (HL.out _).mono ?_
               rintro e w3 ⟨rfl, hf3⟩
               have HF3 := Lib.hid (HF2.out.trans' hf3)
               clear hf3
               go_wp2_with fail
               go_ret
               exact IsB.of HF3.out (by rw [HLG.out, HQ.out, HE.out]; simp))
    | true =>
      go_enter Tryz.func414, Tryz.ntmps414
      go_wp2_with fail
      refine (HG.out _).mono ?_
      rintro e w1 ⟨rfl, hf1⟩
      have hb1 := hbl.fr hf1 (fun h => h)
      have c0 : w1.cell? ⟨w.heap.size, 0, none⟩ = some (.string a) := hb1.cell 0
      have c1 : w1.cell? ⟨w.heap.size, 1, none⟩ = some (.string b) := hb1.cell 1
      have c2 : w1.cell? ⟨w.heap.size, 2, none⟩ = some (.string c) := hb1.cell 2
      have HF1 := Lib.hid (F0.trans' hf1)
      have HB1 := Lib.hid hb1
      clear hf1 hb1 hbl F0
      cases tf with
      | false =>
        go_wp2_with fail
        go_ret
        exact IsB.of HF1.out (by rw [HLG.out]; rfl)
      | true =>
        go_wp2_with fail
        go_ret
        exact IsB.of HF1.out (by rw [HLG.out, HQ.out, HE.out]; rfl)

end Go.Proofs.YtebddgdkndmpjaaGreatDoor
