/- The document's answer on terms: walked. -/
import Derived.Test.YtflhmieeidnpgaaGreatDoorGs
import Derived.Deep.CutBlock
import Derived.Deep.RegionLawGrows
import Derived.Deep.Cut
import Derived.Deep.CutRange
import Derived.WalkKit
import Derived.WalkLawsBesides
import Derived.WalkSpells
import Derived.Deep.QuietTactic
import Derived.BigRegion
import Derived.BigQuiet
import Derived.Lib.Hide
import Derived.Outline
import Derived.Deep.AppendLies
import Derived.Deep.RegionLaw
import Derived.Deep.RegionWith
import Derived.Deep.RegionHeld3
import Derived.Deep.LoopGhost
import Derived.Deep.DeepFit
import Derived.Laws.ResultCell
import Derived.Laws.RangeAny
import Derived.Deep.MidRow
import Derived.StillTailTactics
import Derived.OpenShut
namespace Go.Proofs.YtflhmieeidnpgaaGreatDoor
set_option linter.unusedVariables false
open Go.RowKit Go



def rLit (a b c : ByteArray) : Bool := (rSigns a).2 && (rIri b && (if c.toList.isEmpty = true then !(b.toList == [104, 116, 116, 112, 58, 47, 47, 119, 119, 119, 46, 119, 51, 46, 111, 114, 103, 47, 49, 57, 57, 57, 47, 48, 50, 47, 50, 50, 45, 114, 100, 102, 45, 115, 121, 110, 116, 97, 120, 45, 110, 115, 35, 108, 97, 110, 103, 83, 116, 114, 105, 110, 103]) else (b.toList == [104, 116, 116, 112, 58, 47, 47, 119, 119, 119, 46, 119, 51, 46, 111, 114, 103, 47, 49, 57, 57, 57, 47, 48, 50, 47, 50, 50, 45, 114, 100, 102, 45, 115, 121, 110, 116, 97, 120, 45, 110, 115, 35, 108, 97, 110, 103, 83, 116, 114, 105, 110, 103]) && rLang c))
def rGood (x : DT) : Bool := if x.kind = 0 then rLabel x.text else if x.kind = 1 then rIri x.text else rLit x.text x.type x.lang

set_option maxRecDepth 100000 in
set_option maxHeartbeats 4000000 in
theorem rgood_any (x : DT) (w : World) (hk0 : 0 ≤ x.kind) (hk2 : x.kind ≤ 2) (ha : x.text.size ≤ 4096) (hb : x.type.size ≤ 4096) (hc : x.lang.size ≤ 4096) : Calls Tryz.prog 20 #[.agg x.cells] w (IsB (rGood x) w) := by
  obtain ⟨k, a, b, c⟩ := x
  simp only at hk0 hk2 ha hb hc
  unfold rGood DT.cells
  simp only
  have F0 : Fr (fun _ => False) w (w.alloc (.cells #[.int .i64 k, .string a, .string b, .string c] 41)) := (Fr.refl _ _).alloc _
  have hbl := Blk.new w 41 #[.int .i64 k, .string a, .string b, .string c]
  have HLA := Lib.hid (fun w => rlabel_any a w ha)
  have HIA := Lib.hid (fun w => riri_any a w ha)
  by_cases h0 : k = 0
  · subst h0
    rw [if_pos rfl]
    generalize rLabel a = r at *
    go_enter Tryz.func20, Tryz.ntmps20
    go_wp2_with fail
    refine (HLA.out _).mono ?_
    rintro e w1 ⟨rfl, rfl⟩
    go_wp2_with fail
    go_ret
    exact IsB.of F0 (by simp)
  · by_cases h1 : k = 1
    · subst h1
      rw [if_neg (by decide), if_pos rfl]
      clear h0
      generalize rIri a = r at *
      go_enter Tryz.func20, Tryz.ntmps20
      go_wp2_with fail
      refine (HIA.out _).mono ?_
      rintro e w1 ⟨rfl, hf1⟩
      have HF1 := Lib.hid (F0.trans' hf1)
      clear hf1
      go_wp2_with fail
      go_ret
      exact IsB.of HF1.out (by simp)
    · have h2 : k = 2 := by omega
      subst h2
      rw [if_neg (by decide), if_neg (by decide)]
      clear h0 h1 HLA HIA hk0 hk2
      have HIB := Lib.hid (fun w => riri_any b w hb)
      have HLC := Lib.hid (fun w => rlang_any c w hc)
      have HSI := Lib.hid (fun w => signs_any a w ha)
      unfold SignsPost at HSI
      obtain ⟨l, ok, hlo⟩ : ∃ l ok, rSigns a = (l, ok) := ⟨_, _, rfl⟩
      unfold rLit
      rw [hlo] at HSI ⊢
      clear hlo
      dsimp only
      have HSI := Lib.hid (show ∀ w, Calls Tryz.prog 55 #[.string a] w fun e w' => ∃ (A : Option Addr) (c : Nat), e = .returned (.tuple #[.slice A l.length c, .bool ok]) ∧ w'.ownsRow w.heap.size 3 1 (.slice A l.length c) l.length (l.map (.int .i64)) ∧ l.length ≤ a.size ∧ Fr (fun _ => False) w w' from HSI.out)
      have ha' : decide ((4096 : Int) < (a.size : Int)) = false := decide_eq_false (by omega)
      have ha2 : ¬ (4096 : Int) < (a.size : Int) := by omega
      generalize rIri b = ib at *
      generalize rLang c = lc at *
      obtain ⟨q, hq⟩ : ∃ q : Bool, (b.toList == [104, 116, 116, 112, 58, 47, 47, 119, 119, 119, 46, 119, 51, 46, 111, 114, 103, 47, 49, 57, 57, 57, 47, 48, 50, 47, 50, 50, 45, 114, 100, 102, 45, 115, 121, 110, 116, 97, 120, 45, 110, 115, 35, 108, 97, 110, 103, 83, 116, 114, 105, 110, 103]) = q := ⟨_, rfl⟩
      obtain ⟨e0, he⟩ : ∃ e : Bool, c.toList.isEmpty = e := ⟨_, rfl⟩
      have he2 : (c.toList == []) = e0 := by rw [← he]; cases c.toList <;> rfl
      rw [hq, he]
      cases ok with
      | false =>
        go_enter Tryz.func20, Tryz.ntmps20
        go_wp2_with fail
        refine (HSI.out _).mono ?_
        rintro e w1 ⟨A, n, rfl, -, -, hf1⟩
        have hb1 := hbl.fr hf1 (fun h => h)
        have c1 : w1.cell? ⟨w.heap.size, 1, none⟩ = some (.string a) := hb1.cell 1
        have c2 : w1.cell? ⟨w.heap.size, 2, none⟩ = some (.string b) := hb1.cell 2
        have HF1 := Lib.hid (F0.trans' hf1)
        have HB1 := Lib.hid hb1
        clear hf1 hb1 hbl F0
        go_wp2_with fail
        all_goals (go_ret; exact IsB.of HF1.out (by simp))
      | true => cases ib with
        | false =>
          go_enter Tryz.func20, Tryz.ntmps20
          go_wp2_with fail
          refine (HSI.out _).mono ?_
          rintro e w1 ⟨A, n, rfl, -, -, hf1⟩
          have hb1 := hbl.fr hf1 (fun h => h)
          have c1 : w1.cell? ⟨w.heap.size, 1, none⟩ = some (.string a) := hb1.cell 1
          have c2 : w1.cell? ⟨w.heap.size, 2, none⟩ = some (.string b) := hb1.cell 2
          have HF1 := Lib.hid (F0.trans' hf1)
          have HB1 := Lib.hid hb1
          clear hf1 hb1 hbl F0
          go_wp2_with fail
          refine (HIB.out _).mono ?_
          rintro e w2 ⟨rfl, hf2⟩
          have hb2 := HB1.out.fr hf2 (fun h => h)
          have d2 : w2.cell? ⟨w.heap.size, 2, none⟩ = some (.string b) := hb2.cell 2
          have d3 : w2.cell? ⟨w.heap.size, 3, none⟩ = some (.string c) := hb2.cell 3
          have HF2 := Lib.hid (HF1.out.trans' hf2)
          clear hf2 hb2 c1 c2
          go_wp2_with fail
          all_goals (go_ret; exact IsB.of HF2.out (by simp))
        | true => cases e0 with
          | true => cases q with
            | true =>
              have he3 : (c.toList != []) = false := by simp [bne, he2]
              have hq2 : (b.toList != [104, 116, 116, 112, 58, 47, 47, 119, 119, 119, 46, 119, 51, 46, 111, 114, 103, 47, 49, 57, 57, 57, 47, 48, 50, 47, 50, 50, 45, 114, 100, 102, 45, 115, 121, 110, 116, 97, 120, 45, 110, 115, 35, 108, 97, 110, 103, 83, 116, 114, 105, 110, 103]) = false := by simp only [bne, hq]; rfl
              go_enter Tryz.func20, Tryz.ntmps20
              go_wp2_with fail
              refine (HSI.out _).mono ?_
              rintro e w1 ⟨A, n, rfl, -, -, hf1⟩
              have hb1 := hbl.fr hf1 (fun h => h)
              have c1 : w1.cell? ⟨w.heap.size, 1, none⟩ = some (.string a) := hb1.cell 1
              have c2 : w1.cell? ⟨w.heap.size, 2, none⟩ = some (.string b) := hb1.cell 2
              have HF1 := Lib.hid (F0.trans' hf1)
              have HB1 := Lib.hid hb1
              clear hf1 hb1 hbl F0
              go_wp2_with fail
              refine (HIB.out _).mono ?_
              rintro e w2 ⟨rfl, hf2⟩
              have hb2 := HB1.out.fr hf2 (fun h => h)
              have d2 : w2.cell? ⟨w.heap.size, 2, none⟩ = some (.string b) := hb2.cell 2
              have d3 : w2.cell? ⟨w.heap.size, 3, none⟩ = some (.string c) := hb2.cell 3
              have HF2 := Lib.hid (HF1.out.trans' hf2)
              clear hf2 hb2 c1 c2
              go_wp2_with fail
              go_ret
              exact IsB.of HF2.out (by simp)
            | false =>
              have he3 : (c.toList != []) = false := by simp [bne, he2]
              have hq2 : (b.toList != [104, 116, 116, 112, 58, 47, 47, 119, 119, 119, 46, 119, 51, 46, 111, 114, 103, 47, 49, 57, 57, 57, 47, 48, 50, 47, 50, 50, 45, 114, 100, 102, 45, 115, 121, 110, 116, 97, 120, 45, 110, 115, 35, 108, 97, 110, 103, 83, 116, 114, 105, 110, 103]) = true := by simp only [bne, hq]; rfl
              go_enter Tryz.func20, Tryz.ntmps20
              go_wp2_with fail
              refine (HSI.out _).mono ?_
              rintro e w1 ⟨A, n, rfl, -, -, hf1⟩
              have hb1 := hbl.fr hf1 (fun h => h)
              have c1 : w1.cell? ⟨w.heap.size, 1, none⟩ = some (.string a) := hb1.cell 1
              have c2 : w1.cell? ⟨w.heap.size, 2, none⟩ = some (.string b) := hb1.cell 2
              have HF1 := Lib.hid (F0.trans' hf1)
              have HB1 := Lib.hid hb1
              clear hf1 hb1 hbl F0
              go_wp2_with fail
              refine (HIB.out _).mono ?_
              rintro e w2 ⟨rfl, hf2⟩
              have hb2 := HB1.out.fr hf2 (fun h => h)
              have d2 : w2.cell? ⟨w.heap.size, 2, none⟩ = some (.string b) := hb2.cell 2
              have d3 : w2.cell? ⟨w.heap.size, 3, none⟩ = some (.string c) := hb2.cell 3
              have HF2 := Lib.hid (HF1.out.trans' hf2)
              clear hf2 hb2 c1 c2
              go_wp2_with fail
              go_ret
              exact IsB.of HF2.out (by simp)
          | false => cases q with
            | false =>
              go_enter Tryz.func20, Tryz.ntmps20
              go_wp2_with fail
              refine (HSI.out _).mono ?_
              rintro e w1 ⟨A, n, rfl, -, -, hf1⟩
              have hb1 := hbl.fr hf1 (fun h => h)
              have c1 : w1.cell? ⟨w.heap.size, 1, none⟩ = some (.string a) := hb1.cell 1
              have c2 : w1.cell? ⟨w.heap.size, 2, none⟩ = some (.string b) := hb1.cell 2
              have HF1 := Lib.hid (F0.trans' hf1)
              have HB1 := Lib.hid hb1
              clear hf1 hb1 hbl F0
              go_wp2_with fail
              refine (HIB.out _).mono ?_
              rintro e w2 ⟨rfl, hf2⟩
              have hb2 := HB1.out.fr hf2 (fun h => h)
              have d2 : w2.cell? ⟨w.heap.size, 2, none⟩ = some (.string b) := hb2.cell 2
              have d3 : w2.cell? ⟨w.heap.size, 3, none⟩ = some (.string c) := hb2.cell 3
              have HF2 := Lib.hid (HF1.out.trans' hf2)
              clear hf2 hb2 c1 c2
              go_wp2_with fail
              go_ret
              exact IsB.of HF2.out (by simp)
            | true =>
              go_enter Tryz.func20, Tryz.ntmps20
              go_wp2_with fail
              refine (HSI.out _).mono ?_
              rintro e w1 ⟨A, n, rfl, -, -, hf1⟩
              have hb1 := hbl.fr hf1 (fun h => h)
              have c1 : w1.cell? ⟨w.heap.size, 1, none⟩ = some (.string a) := hb1.cell 1
              have c2 : w1.cell? ⟨w.heap.size, 2, none⟩ = some (.string b) := hb1.cell 2
              have HF1 := Lib.hid (F0.trans' hf1)
              have HB1 := Lib.hid hb1
              clear hf1 hb1 hbl F0
              go_wp2_with fail
              refine (HIB.out _).mono ?_
              rintro e w2 ⟨rfl, hf2⟩
              have hb2 := HB1.out.fr hf2 (fun h => h)
              have d2 : w2.cell? ⟨w.heap.size, 2, none⟩ = some (.string b) := hb2.cell 2
              have d3 : w2.cell? ⟨w.heap.size, 3, none⟩ = some (.string c) := hb2.cell 3
              have HF2 := Lib.hid (HF1.out.trans' hf2)
              clear hf2 hb2 c1 c2
              go_wp2_with fail
              refine (HLC.out _).mono ?_
              rintro e w3 ⟨rfl, rfl⟩
              go_wp2_with fail
              go_ret
              exact IsB.of HF2.out (by simp)

end Go.Proofs.YtflhmieeidnpgaaGreatDoor
