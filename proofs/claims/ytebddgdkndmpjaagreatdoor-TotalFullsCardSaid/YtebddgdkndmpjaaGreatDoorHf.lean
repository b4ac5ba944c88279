/- May a table be: walked. -/
import Derived.Test.YtebddgdkndmpjaaGreatDoorHa
import Derived.Deep.CutBlock
import Derived.Deep.RegionLawGrows
import Derived.Deep.Cut
import Derived.Deep.CutRange
import Derived.WalkKit
import Derived.WalkLawsBesides
import Derived.WalkSpells
import Derived.Deep.QuietTactic
import Derived.BigRegion
import Derived.BigQuiet
import Derived.Lib.Hide
import Derived.Outline
import Derived.Deep.AppendLies
import Derived.Deep.RegionLaw
import Derived.Deep.RegionWith
import Derived.Deep.RegionHeld3
import Derived.Deep.LoopGhost
import Derived.Deep.DeepFit
import Derived.Laws.ResultCell
import Derived.Laws.RangeAny
import Derived.Deep.MidRow
import Derived.StillTailTactics
import Derived.OpenShut
namespace Go.Proofs.YtebddgdkndmpjaaGreatDoor
set_option linter.unusedVariables false
open Go.RowKit Go

set_option maxHeartbeats 1000000 in
theorem low47 (x : Int) (w : World) (hx : -1 ≤ x) : Calls Tryz.prog 63 #[.int .i64 x] w fun e w' => e = .returned (.bool false) ∧ w = w' := by
  have hx' : ¬ x < -1 := by omega
  go_enter Tryz.func63, Tryz.ntmps63
  go_wp2_with fail
  go_ret
  exact ⟨rfl, rfl⟩

set_option maxRecDepth 100000 in
set_option maxHeartbeats 4000000 in
theorem idx77 (m c B : Nat) (V : Option Addr) (xs : List Int) (w : World) (hm9 : m ≤ 4096) (hl : xs.length = m) (hm : ∀ k, k < m → -1 ≤ xs.getD k 0) (hr : IntRow w B (.slice V m c) xs) :
    Calls Tryz.prog 126 #[.slice V m c, .func (.func 63) #[] #[]] w fun e w' => e = .returned (.int .i64 (-1)) ∧ w = w' := by
  have HL := Lib.hid (fun x w hx => low47 x w hx)
  have HR := Lib.hid hr
  have HM := Lib.hid hm
  have HN := Lib.hid hl
  clear hr hm hl
  go_enter Tryz.func126, Tryz.ntmps126
  go_wp2_with fail
  go_loopw [8] (fun iv wr => ∃ i : Nat, iv = .int .i64 (i : Int) ∧ i ≤ m ∧ w = wr) (fun iv _ => m - (intOf iv).toNat)
  case atStart => exact ⟨0, rfl, Nat.zero_le _, rfl⟩
  case round =>
    obtain ⟨i, rfl, hi, rfl⟩ := hrel
    by_cases hlt : i < m
    · have hlt' : (i : Int) < (m : Int) := by omega
      have hown := HR.out
      unfold IntRow at hown
      rw [HN.out] at hown
      obtain ⟨g, rfl, _, _, _⟩ := row_form hown (by omega)
      have c0 := int_cell HR.out i (by rw [HN.out]; exact hlt)
      have hx := HM.out i hlt
      clear hown
      generalize xs.getD i 0 = x at *
      go_wp2_with fail
      refine (HL.out _ _ hx).mono ?_
      rintro e w1 ⟨rfl, rfl⟩
      go_wp2_with fail
      go_roundw
      case rel => exact ⟨i + 1, by go_num, by omega, trivial⟩
      case measure => simp [intOf]; omega
    · have hlt' : ¬ (i : Int) < (m : Int) := by omega
      go_wp2_with fail
      go_ret
      exact ⟨rfl, rfl⟩

set_option maxRecDepth 100000 in
set_option maxHeartbeats 4000000 in
theorem has46 (m c B : Nat) (V : Option Addr) (xs : List Int) (w : World) (hm9 : m ≤ 4096) (hl : xs.length = m) (hm : ∀ k, k < m → -1 ≤ xs.getD k 0) (hr : IntRow w B (.slice V m c) xs) :
    Calls Tryz.prog 62 #[.slice V m c, .func (.func 63) #[] #[]] w fun e w' => e = .returned (.bool false) ∧ w = w' := by
  have HI := Lib.hid (idx77 m c B V xs w hm9 hl hm hr)
  clear hm hr hl
  go_enter Tryz.func62, Tryz.ntmps62
  go_wp2_with fail
  refine HI.out.mono ?_
  rintro e w1 ⟨rfl, rfl⟩
  go_wp2_with fail
  go_ret
  exact ⟨rfl, rfl⟩

set_option maxRecDepth 100000 in
set_option maxHeartbeats 4000000 in
theorem bad45 (tb vc m c B : Nat) (V W : Option Addr) (xs : List Int) (w : World) (hm9 : m ≤ 4096) (hl : xs.length = m) (hm : ∀ k, k < m → -1 ≤ xs.getD k 0) (hr : IntRow w B (.slice V m c) xs)
    (t0 : w.cell? ⟨tb, 0, none⟩ = some (.slice W m vc)) :
    Calls Tryz.prog 61 #[.slice V m c, .pointer (some ⟨tb, 0, none⟩)] w fun e w' => e = .returned (.bool false) ∧ w = w' := by
  have HI := Lib.hid (has46 m c B V xs w hm9 hl hm hr)
  clear hm hr hl
  go_enter Tryz.func61, Tryz.ntmps61
  go_wp2_with fail
  refine HI.out.mono ?_
  rintro e w1 ⟨rfl, rfl⟩
  go_wp2_with fail
  go_ret
  exact ⟨rfl, rfl⟩

set_option maxRecDepth 100000 in
set_option maxHeartbeats 4000000 in
theorem idx76 (tb vc m B : Nat) (W : Option Addr) (vr : Value) (vals : List Value) (g : List (List Int)) (w : World) (hm9 : m ≤ 4096) (hn : g.length ≤ 4096) (hl : ∀ i, i < g.length → (g.getD i []).length = m) (hm : ∀ i, i < g.length → ∀ k, k < m → -1 ≤ (g.getD i []).getD k 0) (hr : RowsAt w B vr vals g)
    (t0 : w.cell? ⟨tb, 0, none⟩ = some (.slice W m vc)) :
    Calls Tryz.prog 125 #[vr, .func (.func 61) #[] #[.pointer (some ⟨tb, 0, none⟩)]] w fun e w' => e = .returned (.int .i64 (-1)) ∧ w = w' := by
  obtain ⟨A, c, hv⟩ := row_shape hr.own
  subst hv
  have HL := Lib.hid (fun c B V xs w hl hm hr t0 => bad45 tb vc m c B V W xs w hm9 hl hm hr t0)
  have HR := Lib.hid hr
  have HM := Lib.hid hm
  have HN := Lib.hid hl
  have HT := Lib.hid t0
  clear hr hm hl t0
  generalize hgl : g.length = n at *
  have HGL := Lib.hid hgl
  clear hgl
  go_enter Tryz.func125, Tryz.ntmps125
  go_wp2_with fail
  go_loopw [8] (fun iv wr => ∃ i : Nat, iv = .int .i64 (i : Int) ∧ i ≤ n ∧ w = wr) (fun iv _ => n - (intOf iv).toNat)
  case atStart => exact ⟨0, rfl, Nat.zero_le _, rfl⟩
  case round =>
    obtain ⟨i, rfl, hi, rfl⟩ := hrel
    by_cases hlt : i < n
    · have hlt' : decide (i < n) = true := by simpa using hlt
      have hown := HR.out.own
      rw [HGL.out] at hown
      obtain ⟨ga, rfl, _, _, _⟩ := row_form hown (by omega)
      have c0 : w.cell? ⟨ga, i, none⟩ = some (vals.getD i undef) := by
        rw [World.ownsRow.cellAt hown i (by omega), List.getD_eq_getElem?_getD, List.getElem?_eq_getElem (by have := HR.out.len; rw [HGL.out] at this; omega)]; rfl
      have hek := HR.out.each i (by rw [HGL.out]; exact hlt)
      have h3 := HN.out i hlt
      obtain ⟨RA, rc, hvk⟩ := row_shape hek
      rw [hvk] at c0 hek
      rw [h3] at c0 hek
      have HC := Lib.hid (HL.out rc _ RA _ w h3 (HM.out i hlt) hek HT.out)
      clear hown hek h3
      go_wp2_with fail
      refine HC.out.mono ?_
      rintro e w1 ⟨rfl, rfl⟩
      go_wp2_with fail
      go_roundw
      case rel => exact ⟨i + 1, by go_num, by omega, trivial⟩
      case measure => simp [intOf]; omega
    · have hlt' : decide (i < n) = false := by simpa using hlt
      have hin : i = n := by omega
      subst hin
      go_wp2_with fail
      go_ret
      exact ⟨rfl, rfl⟩

set_option maxRecDepth 100000 in
set_option maxHeartbeats 4000000 in
theorem has44 (tb vc m B : Nat) (W : Option Addr) (vr : Value) (vals : List Value) (g : List (List Int)) (w : World) (hm9 : m ≤ 4096) (hn : g.length ≤ 4096) (hl : ∀ i, i < g.length → (g.getD i []).length = m) (hm : ∀ i, i < g.length → ∀ k, k < m → -1 ≤ (g.getD i []).getD k 0) (hr : RowsAt w B vr vals g)
    (t0 : w.cell? ⟨tb, 0, none⟩ = some (.slice W m vc)) :
    Calls Tryz.prog 60 #[vr, .func (.func 61) #[] #[.pointer (some ⟨tb, 0, none⟩)]] w fun e w' => e = .returned (.bool false) ∧ w = w' := by
  have HI := Lib.hid (idx76 tb vc m B W vr vals g w hm9 hn hl hm hr t0)
  clear hm hr hl t0
  go_enter Tryz.func60, Tryz.ntmps60
  go_wp2_with fail
  refine HI.out.mono ?_
  rintro e w1 ⟨rfl, rfl⟩
  go_wp2_with fail
  go_ret
  exact ⟨rfl, rfl⟩

set_option maxRecDepth 100000 in
set_option maxHeartbeats 4000000 in
theorem tabGood_any (vc m B B2 : Nat) (V : Option Addr) (ss : List ByteArray) (vr : Value) (vals : List Value) (g : List (List Int)) (w : World) (hm9 : m ≤ 4096) (hn : g.length ≤ 4096) (hl : ∀ i, i < g.length → (g.getD i []).length = m) (hm : ∀ i, i < g.length → ∀ k, k < m → -1 ≤ (g.getD i []).getD k 0) (hr : RowsAt w B vr vals g)
    (hs : ∀ k, k + 1 < m → Op.bytesLess (ss.getD k ByteArray.empty).toList (ss.getD (k + 1) ByteArray.empty).toList = true)
    (hv : w.ownsRow B2 9 1 (.slice V m vc) m (ss.map .string)) :
    Calls Tryz.prog 18 #[.agg #[.slice V m vc, vr]] w (IsB true w) := by
  obtain ⟨A, c, hvr⟩ := row_shape hr.own
  subst hvr
  have HH := Lib.hid (fun wy (hf : Fr (fun _ => False) w wy) t0 => has44 w.heap.size vc m B V _ vals g wy hm9 hn hl hm (hr.frF hf) t0)
  have HV := Lib.hid hv
  have HS := Lib.hid hs
  have hb := Blk.new w 63 #[.slice V m vc, .slice A g.length c]
  have HB := Lib.hid hb
  clear hr hm hl hv hb hs
  go_enter Tryz.func18, Tryz.ntmps18
  go_wp2_with fail
  go_loopw [7] (fun iv wr => ∃ i : Nat, iv = .int .i64 (i : Int) ∧ i ≤ m ∧ Fr (fun _ => False) w wr ∧ Blk wr w.heap.size 63 #[.slice V m vc, .slice A g.length c]) (fun iv _ => m - (intOf iv).toNat)
  case atStart => exact ⟨0, rfl, Nat.zero_le _, (Fr.refl _ _).alloc _, HB.out⟩
  case round =>
    obtain ⟨i, rfl, hi, hf, hbl⟩ := hrel
    have t0 : wr.cell? ⟨w.heap.size, 0, none⟩ = some (.slice V m vc) := hbl.cell 0
    have t1 : wr.cell? ⟨w.heap.size, 1, none⟩ = some (.slice A g.length c) := hbl.cell 1
    have HF := Lib.hid hf
    have HBL := Lib.hid hbl
    have hvv := ownsRow_fr HV.out hf (fun _ _ h => h)
    clear hf hbl
    by_cases hlt : i < m
    · have hlt' : (i : Int) < (m : Int) := by omega
      by_cases h0 : i = 0
      · subst h0
        clear hvv
        go_wp2_with fail
        go_quiet (fail)
        go_wp2_with fail
        go_roundw
        case rel => exact ⟨1, rfl, by omega, HF.out.drewN _, HBL.out.drewN _⟩
        case measure => simp [intOf]; omega
      · obtain ⟨k, rfl⟩ : ∃ k, i = k + 1 := ⟨i - 1, by omega⟩
        obtain ⟨vg, rfl, _, _, _⟩ := row_form hvv (by omega)
        have c0 := str_cell hvv k (by omega)
        have c1 := str_cell hvv (k + 1) (by omega)
        have hls := HS.out k (by omega)
        generalize ss.getD k ByteArray.empty = x at *
        generalize ss.getD (k + 1) ByteArray.empty = y at *
        have hgt : decide ((k : Int) + 1 > 0) = true := decide_eq_true (by omega)
        clear hvv
        go_wp2_with fail
        go_quiet (fail)
        go_wp2_with fail
        go_roundw
        case rel => exact ⟨k + 2, by go_num, by omega, HF.out.drewN _, HBL.out.drewN _⟩
        case measure => simp [intOf]; omega
    · have hlt' : ¬ (i : Int) < (m : Int) := by omega
      go_wp2_with fail
      refine (HH.out _ HF.out t0).mono ?_
      rintro e w1 ⟨rfl, rfl⟩
      go_wp2_with fail
      go_ret
      exact ⟨rfl, HF.out⟩

end Go.Proofs.YtebddgdkndmpjaaGreatDoor
