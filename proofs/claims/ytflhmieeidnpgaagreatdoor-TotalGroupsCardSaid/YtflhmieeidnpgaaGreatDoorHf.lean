/- May a table be: walked. -/
import Derived.Test.YtflhmieeidnpgaaGreatDoorHc
import Derived.Deep.CutBlock
import Derived.Deep.RegionLawGrows
import Derived.Deep.Cut
import Derived.Deep.CutRange
import Derived.WalkKit
import Derived.WalkLawsBesides
import Derived.WalkSpells
import Derived.Deep.QuietTactic
import Derived.BigRegion
import Derived.BigQuiet
import Derived.Lib.Hide
import Derived.Outline
import Derived.Deep.AppendLies
import Derived.Deep.RegionLaw
import Derived.Deep.RegionWith
import Derived.Deep.RegionHeld3
import Derived.Deep.LoopGhost
import Derived.Deep.DeepFit
import Derived.Laws.ResultCell
import Derived.Laws.RangeAny
import Derived.Deep.MidRow
import Derived.StillTailTactics
import Derived.OpenShut
namespace Go.Proofs.YtflhmieeidnpgaaGreatDoor
set_option linter.unusedVariables false
open Go.RowKit Go

set_option maxHeartbeats 1000000 in
theorem low47 (x : Int) (w : World) (hx : -1 ≤ x) : Calls Tryz.prog 47 #[.int .i64 x] w fun e w' => e = .returned (.bool false) ∧ w = w' := by
  have hx' : ¬ x < -1 := by omega
  go_enter Tryz.func47, Tryz.ntmps47
  go_wp2_with fail
  go_ret
  exact ⟨rfl, rfl⟩

set_option maxRecDepth 100000 in
set_option maxHeartbeats 4000000 in
theorem idx77 (g c B : Nat) (xs : List Int) (w : World) (hl : xs.length = 3) (hm : ∀ k, k < 3 → -1 ≤ xs.getD k 0) (hr : IntRow w B (.slice (some ⟨g, 0, none⟩) 3 c) xs) :
    Calls Tryz.prog 77 #[.slice (some ⟨g, 0, none⟩) 3 c, .func (.func 47) #[] #[]] w fun e w' => e = .returned (.int .i64 (-1)) ∧ w = w' := by
  have HL := Lib.hid (fun x w hx => low47 x w hx)
  have HR := Lib.hid hr
  have HM := Lib.hid hm
  clear hr hm
  go_enter Tryz.func77, Tryz.ntmps77
  go_wp2_with fail
  go_loopw [8] (fun iv wr => ∃ i : Nat, iv = .int .i64 (i : Int) ∧ i ≤ 3 ∧ w = wr) (fun iv _ => 3 - (intOf iv).toNat)
  case atStart => exact ⟨0, rfl, Nat.zero_le _, rfl⟩
  case round =>
    obtain ⟨i, rfl, hi, rfl⟩ := hrel
    by_cases hlt : i < 3
    · have hlt' : (i : Int) < 3 := by omega
      have c0 := int_cell HR.out i (by omega)
      have hx := HM.out i hlt
      generalize xs.getD i 0 = x at *
      go_wp2_with fail
      refine (HL.out _ _ hx).mono ?_
      rintro e w1 ⟨rfl, rfl⟩
      go_wp2_with fail
      go_roundw
      case rel => exact ⟨i + 1, by go_num, by omega, trivial⟩
      case measure => simp [intOf]; omega
    · have hlt' : ¬ (i : Int) < 3 := by omega
      go_wp2_with fail
      go_ret
      exact ⟨rfl, rfl⟩

set_option maxRecDepth 100000 in
set_option maxHeartbeats 4000000 in
theorem has46 (g c B : Nat) (xs : List Int) (w : World) (hl : xs.length = 3) (hm : ∀ k, k < 3 → -1 ≤ xs.getD k 0) (hr : IntRow w B (.slice (some ⟨g, 0, none⟩) 3 c) xs) :
    Calls Tryz.prog 46 #[.slice (some ⟨g, 0, none⟩) 3 c, .func (.func 47) #[] #[]] w fun e w' => e = .returned (.bool false) ∧ w = w' := by
  have HI := Lib.hid (idx77 g c B xs w hl hm hr)
  clear hm hr
  go_enter Tryz.func46, Tryz.ntmps46
  go_wp2_with fail
  refine HI.out.mono ?_
  rintro e w1 ⟨rfl, rfl⟩
  go_wp2_with fail
  go_ret
  exact ⟨rfl, rfl⟩

set_option maxRecDepth 100000 in
set_option maxHeartbeats 4000000 in
theorem bad45 (tb vg vc g c B : Nat) (xs : List Int) (w : World) (hl : xs.length = 3) (hm : ∀ k, k < 3 → -1 ≤ xs.getD k 0) (hr : IntRow w B (.slice (some ⟨g, 0, none⟩) 3 c) xs)
    (t0 : w.cell? ⟨tb, 0, none⟩ = some (.slice (some ⟨vg, 0, none⟩) 3 vc)) :
    Calls Tryz.prog 45 #[.slice (some ⟨g, 0, none⟩) 3 c, .pointer (some ⟨tb, 0, none⟩)] w fun e w' => e = .returned (.bool false) ∧ w = w' := by
  have HI := Lib.hid (has46 g c B xs w hl hm hr)
  clear hm hr
  go_enter Tryz.func45, Tryz.ntmps45
  go_wp2_with fail
  refine HI.out.mono ?_
  rintro e w1 ⟨rfl, rfl⟩
  go_wp2_with fail
  go_ret
  exact ⟨rfl, rfl⟩

set_option maxRecDepth 100000 in
set_option maxHeartbeats 4000000 in
theorem idx76 (tb vg vc B : Nat) (vr : Value) (vals : List Value) (g : List (List Int)) (w : World) (hn : g.length ≤ 4096) (hl : ∀ i, i < g.length → (g.getD i []).length = 3) (hm : ∀ i, i < g.length → ∀ k, k < 3 → -1 ≤ (g.getD i []).getD k 0) (hr : RowsAt w B vr vals g)
    (t0 : w.cell? ⟨tb, 0, none⟩ = some (.slice (some ⟨vg, 0, none⟩) 3 vc)) :
    Calls Tryz.prog 76 #[vr, .func (.func 45) #[] #[.pointer (some ⟨tb, 0, none⟩)]] w fun e w' => e = .returned (.int .i64 (-1)) ∧ w = w' := by
  obtain ⟨A, c, hv⟩ := row_shape hr.own
  subst hv
  have HL := Lib.hid (fun g c B xs w hl hm hr t0 => bad45 tb vg vc g c B xs w hl hm hr t0)
  have HR := Lib.hid hr
  have HM := Lib.hid hm
  have HN := Lib.hid hl
  have HT := Lib.hid t0
  clear hr hm hl t0
  generalize hgl : g.length = n at *
  have HGL := Lib.hid hgl
  clear hgl
  go_enter Tryz.func76, Tryz.ntmps76
  go_wp2_with fail
  go_loopw [8] (fun iv wr => ∃ i : Nat, iv = .int .i64 (i : Int) ∧ i ≤ n ∧ w = wr) (fun iv _ => n - (intOf iv).toNat)
  case atStart => exact ⟨0, rfl, Nat.zero_le _, rfl⟩
  case round =>
    obtain ⟨i, rfl, hi, rfl⟩ := hrel
    by_cases hlt : i < n
    · have hlt' : decide (i < n) = true := by simpa using hlt
      have hown := HR.out.own
      rw [HGL.out] at hown
      obtain ⟨ga, rfl, _, _, _⟩ := row_form hown (by omega)
      have c0 : w.cell? ⟨ga, i, none⟩ = some (vals.getD i undef) := by
        rw [World.ownsRow.cellAt hown i (by omega), List.getD_eq_getElem?_getD, List.getElem?_eq_getElem (by have := HR.out.len; rw [HGL.out] at this; omega)]; rfl
      have hek := HR.out.each i (by rw [HGL.out]; exact hlt)
      have h3 := HN.out i hlt
      obtain ⟨rg, rc, hvk⟩ := row_pos hek (by rw [h3]; omega)
      rw [hvk] at c0 hek
      rw [h3] at c0 hek
      have HC := Lib.hid (HL.out rg rc _ _ w h3 (HM.out i hlt) hek HT.out)
      clear hown hek h3
      go_wp2_with fail
      refine HC.out.mono ?_
      rintro e w1 ⟨rfl, rfl⟩
      go_wp2_with fail
      go_roundw
      case rel => exact ⟨i + 1, by go_num, by omega, trivial⟩
      case measure => simp [intOf]; omega
    · have hlt' : decide (i < n) = false := by simpa using hlt
      have hin : i = n := by omega
      subst hin
      go_wp2_with fail
      go_ret
      exact ⟨rfl, rfl⟩

set_option maxRecDepth 100000 in
set_option maxHeartbeats 4000000 in
theorem has44 (tb vg vc B : Nat) (vr : Value) (vals : List Value) (g : List (List Int)) (w : World) (hn : g.length ≤ 4096) (hl : ∀ i, i < g.length → (g.getD i []).length = 3) (hm : ∀ i, i < g.length → ∀ k, k < 3 → -1 ≤ (g.getD i []).getD k 0) (hr : RowsAt w B vr vals g)
    (t0 : w.cell? ⟨tb, 0, none⟩ = some (.slice (some ⟨vg, 0, none⟩) 3 vc)) :
    Calls Tryz.prog 44 #[vr, .func (.func 45) #[] #[.pointer (some ⟨tb, 0, none⟩)]] w fun e w' => e = .returned (.bool false) ∧ w = w' := by
  have HI := Lib.hid (idx76 tb vg vc B vr vals g w hn hl hm hr t0)
  clear hm hr hl t0
  go_enter Tryz.func44, Tryz.ntmps44
  go_wp2_with fail
  refine HI.out.mono ?_
  rintro e w1 ⟨rfl, rfl⟩
  go_wp2_with fail
  go_ret
  exact ⟨rfl, rfl⟩

theorem abc_geq : ∀ k, k < 2 → Op.bytesLess (abc.getD k ByteArray.empty).toList (abc.getD (k + 1) ByteArray.empty).toList = true := by decide +kernel

set_option maxRecDepth 100000 in
set_option maxHeartbeats 4000000 in
theorem tabGood_any (vg vc B B2 : Nat) (vr : Value) (vals : List Value) (g : List (List Int)) (w : World) (hn : g.length ≤ 4096) (hl : ∀ i, i < g.length → (g.getD i []).length = 3) (hm : ∀ i, i < g.length → ∀ k, k < 3 → -1 ≤ (g.getD i []).getD k 0) (hr : RowsAt w B vr vals g)
    (hv : w.ownsRow B2 9 1 (.slice (some ⟨vg, 0, none⟩) 3 vc) 3 (abc.map .string)) :
    Calls Tryz.prog 13 #[.agg #[.slice (some ⟨vg, 0, none⟩) 3 vc, vr]] w (IsB true w) := by
  obtain ⟨A, c, hvr⟩ := row_shape hr.own
  subst hvr
  have HH := Lib.hid (fun wy (hf : Fr (fun _ => False) w wy) t0 => has44 w.heap.size vg vc B _ vals g wy hn hl hm (hr.frF hf) t0)
  have HV := Lib.hid hv
  have hb := Blk.new w 29 #[.slice (some ⟨vg, 0, none⟩) 3 vc, .slice A g.length c]
  have HB := Lib.hid hb
  clear hr hm hl hv hb
  go_enter Tryz.func13, Tryz.ntmps13
  go_wp2_with fail
  go_loopw [7] (fun iv wr => ∃ i : Nat, iv = .int .i64 (i : Int) ∧ i ≤ 3 ∧ Fr (fun _ => False) w wr ∧ Blk wr w.heap.size 29 #[.slice (some ⟨vg, 0, none⟩) 3 vc, .slice A g.length c]) (fun iv _ => 3 - (intOf iv).toNat)
  case atStart => exact ⟨0, rfl, Nat.zero_le _, (Fr.refl _ _).alloc _, HB.out⟩
  case round =>
    obtain ⟨i, rfl, hi, hf, hbl⟩ := hrel
    have t0 : wr.cell? ⟨w.heap.size, 0, none⟩ = some (.slice (some ⟨vg, 0, none⟩) 3 vc) := hbl.cell 0
    have t1 : wr.cell? ⟨w.heap.size, 1, none⟩ = some (.slice A g.length c) := hbl.cell 1
    have HF := Lib.hid hf
    have HBL := Lib.hid hbl
    have hvv := ownsRow_fr HV.out hf (fun _ _ h => h)
    clear hf hbl
    by_cases hlt : i < 3
    · have hlt' : (i : Int) < 3 := by omega
      by_cases h0 : i = 0
      · subst h0
        clear hvv
        go_wp2_with fail
        go_quiet (fail)
        go_wp2_with fail
        go_roundw
        case rel => exact ⟨1, rfl, by omega, HF.out.drewN _, HBL.out.drewN _⟩
        case measure => simp [intOf]
      · obtain ⟨k, rfl⟩ : ∃ k, i = k + 1 := ⟨i - 1, by omega⟩
        have c0 := str_cell hvv k (by omega)
        have c1 := str_cell hvv (k + 1) (by omega)
        have hls := abc_geq k (by omega)
        generalize abc.getD k ByteArray.empty = x at *
        generalize abc.getD (k + 1) ByteArray.empty = y at *
        have hgt : decide ((k : Int) + 1 > 0) = true := decide_eq_true (by omega)
        clear hvv
        go_wp2_with fail
        go_quiet (fail)
        go_wp2_with fail
        go_roundw
        case rel => exact ⟨k + 2, by go_num, by omega, HF.out.drewN _, HBL.out.drewN _⟩
        case measure => simp [intOf]; omega
    · have hlt' : ¬ (i : Int) < 3 := by omega
      go_wp2_with fail
      refine (HH.out _ HF.out t0).mono ?_
      rintro e w1 ⟨rfl, rfl⟩
      go_wp2_with fail
      go_ret
      exact ⟨rfl, HF.out⟩

end Go.Proofs.YtflhmieeidnpgaaGreatDoor
