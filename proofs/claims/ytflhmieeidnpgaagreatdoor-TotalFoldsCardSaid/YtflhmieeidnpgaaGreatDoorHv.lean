/- The least and the greatest of terms: walked. -/
import Derived.Test.YtflhmieeidnpgaaGreatDoorHu
import Derived.Deep.CutBlock
import Derived.Deep.RegionLawGrows
import Derived.Deep.Cut
import Derived.Deep.CutRange
import Derived.WalkKit
import Derived.WalkLawsBesides
import Derived.WalkSpells
import Derived.Deep.QuietTactic
import Derived.BigRegion
import Derived.BigQuiet
import Derived.Lib.Hide
import Derived.Outline
import Derived.Deep.AppendLies
import Derived.Deep.RegionLaw
import Derived.Deep.RegionWith
import Derived.Deep.RegionHeld3
import Derived.Deep.LoopGhost
import Derived.Deep.DeepFit
import Derived.Laws.ResultCell
import Derived.Laws.RangeAny
import Derived.Deep.MidRow
import Derived.StillTailTactics
import Derived.OpenShut
namespace Go.Proofs.YtflhmieeidnpgaaGreatDoor
set_option linter.unusedVariables false
open Go.RowKit Go


/-- The term that is kept of the first ones. -/
def pickTo (p : Tm → Tm → Bool) (l : List Tm) : Nat → Tm
  | 0 => l.getD 0 default
  | i + 1 => if p (l.getD (i + 1) default) (pickTo p l i) = true then l.getD (i + 1) default else pickTo p l i
theorem pickTo_step (p : Tm → Tm → Bool) (l : List Tm) (i : Nat) : pickTo p l (i + 1) = if p (l.getD (i + 1) default) (pickTo p l i) = true then l.getD (i + 1) default else pickTo p l i := rfl
set_option maxRecDepth 100000 in
set_option maxHeartbeats 4000000 in
theorem minF_any (B : Nat) (v : Value) (l : List Tm) (w : World) (hl : l.length ≤ 100) (h0 : 0 < l.length) (hr : w.ownsRow B 37 1 v l.length (l.map Tm.val)) :
    Calls Tryz.prog 27 #[v, .func (.func 28) #[] #[]] w fun e w' => e = .returned (pickTo (fun x m => decide (x.ord m < 0)) l (l.length - 1)).val ∧ Fr (fun _ => False) w w' := by
  obtain ⟨ga, c, rfl⟩ := row_pos hr h0
  have HR := Lib.hid hr
  have HO := Lib.hid (fun a b w => order_any a b w)
  have HST := Lib.hid (fun i => pickTo_step (fun x m => decide (x.ord m < 0)) l i)
  clear hr
  generalize hll : l.length = n at *
  have HLL := Lib.hid hll
  clear hll
  have hget : ∀ i, i < n → ∀ wr, Fr (fun _ => False) w wr → wr.cell? ⟨ga, i, none⟩ = some (l.getD i default).val := fun i hi wr hf => by
    have hro := ownsRow_fr HR.out hf (fun _ _ h => h)
    rw [World.ownsRow.cellAt hro i (by omega), List.getElem?_map, List.getD_eq_getElem?_getD, List.getElem?_eq_getElem (by rw [HLL.out]; exact hi)]; rfl
  have HGET := Lib.hid hget
  clear hget
  have ck0 := HGET.out 0 h0 w (Fr.refl _ _)
  obtain ⟨d0, y0, hy0⟩ := (l.getD 0 default).shape
  have HY0 := Lib.hid hy0
  rw [hy0] at ck0
  clear hy0
  have hq1 : (1 : Int) ≤ (n : Int) := by omega
  have hq0 : decide ((n : Int) < 1) = false := by simp; omega
  go_enter Tryz.func27, Tryz.ntmps27
  go_wp2_with fail
  go_loopw [5, 6] (fun mv iv wr => ∃ i : Nat, iv = .int .i64 ((i : Int) + 1) ∧ i + 1 ≤ n ∧ mv = (pickTo (fun x m => decide (x.ord m < 0)) l i).val ∧ Fr (fun _ => False) w wr) (fun mv iv _ => n + 1 - (intOf iv).toNat)
  case atStart => exact ⟨0, rfl, h0, HY0.out.symm, Fr.refl _ _⟩
  case round =>
    obtain ⟨i, rfl, hi, hmv, hf⟩ := hrel
    have hst := HST.out i
    obtain ⟨m, hm⟩ : ∃ m, pickTo (fun x m => decide (x.ord m < 0)) l i = m := ⟨_, rfl⟩
    rw [hm] at hmv hst
    obtain ⟨dm, ym, hym⟩ := m.shape
    have HM := Lib.hid hm
    have HMY := Lib.hid hym
    rw [hym] at hmv
    subst hmv
    have HF := Lib.hid hf
    by_cases hlt : i + 1 < n
    · have hlt' : decide ((i : Int) + 1 < n) = true := by simp; omega
      have ck := HGET.out (i + 1) hlt wr hf
      obtain ⟨x, hx⟩ : ∃ x, l.getD (i + 1) default = x := ⟨_, rfl⟩
      rw [hx] at ck hst
      have HX := Lib.hid hx
      obtain ⟨dx, yx, hyx⟩ := x.shape
      have HXY := Lib.hid hyx
      rw [hyx] at ck
      have ho := HO.out x m wr
      rw [hyx, hym] at ho
      obtain ⟨o, hoo⟩ : ∃ o, x.ord m = o := ⟨_, rfl⟩
      rw [hoo] at ho hst
      have HOC := Lib.hid ho
      clear hx hm hyx hym hf ho hoo
      by_cases hc : o < 0
      · have hc' : decide (o < 0) = true := by simp [hc]
        rw [if_pos hc'] at hst
        have HS := Lib.hid hst
        clear hst hc
        go_wp2_with fail
        refine HOC.out.mono ?_
        rintro e w1 ⟨rfl, hf1⟩
        have HF1 := Lib.hid (HF.out.trans' hf1)
        have ck1 := HGET.out (i + 1) hlt w1 HF1.out
        rw [HX.out, HXY.out] at ck1
        clear hf1 ck
        go_wp2_with fail
        go_roundw
        case rel => exact ⟨i + 1, by go_num, hlt, by rw [HS.out, HXY.out], HF1.out⟩
        case measure => simp [intOf]; omega
      · have hc' : decide (o < 0) = false := by simp [hc]
        rw [if_neg (by rw [hc']; decide)] at hst
        have HS := Lib.hid hst
        clear hst hc
        go_wp2_with fail
        refine HOC.out.mono ?_
        rintro e w1 ⟨rfl, hf1⟩
        have HF1 := Lib.hid (HF.out.trans' hf1)
        clear hf1 ck
        go_wp2_with fail
        go_roundw
        case rel => exact ⟨i + 1, by go_num, hlt, by rw [HS.out, HMY.out], HF1.out⟩
        case measure => simp [intOf]; omega
    · have hlt' : decide ((i : Int) + 1 < n) = false := by simp; omega
      have e : n - 1 = i := by omega
      have HE := Lib.hid e
      clear hst e
      go_wp2_with fail
      go_ret
      exact ⟨by rw [HE.out, HM.out, HMY.out]; rfl, HF.out⟩
set_option maxRecDepth 100000 in
set_option maxHeartbeats 4000000 in
theorem maxF_any (B : Nat) (v : Value) (l : List Tm) (w : World) (hl : l.length ≤ 100) (h0 : 0 < l.length) (hr : w.ownsRow B 37 1 v l.length (l.map Tm.val)) :
    Calls Tryz.prog 29 #[v, .func (.func 28) #[] #[]] w fun e w' => e = .returned (pickTo (fun x m => decide (0 < x.ord m)) l (l.length - 1)).val ∧ Fr (fun _ => False) w w' := by
  obtain ⟨ga, c, rfl⟩ := row_pos hr h0
  have HR := Lib.hid hr
  have HO := Lib.hid (fun a b w => order_any a b w)
  have HST := Lib.hid (fun i => pickTo_step (fun x m => decide (0 < x.ord m)) l i)
  clear hr
  generalize hll : l.length = n at *
  have HLL := Lib.hid hll
  clear hll
  have hget : ∀ i, i < n → ∀ wr, Fr (fun _ => False) w wr → wr.cell? ⟨ga, i, none⟩ = some (l.getD i default).val := fun i hi wr hf => by
    have hro := ownsRow_fr HR.out hf (fun _ _ h => h)
    rw [World.ownsRow.cellAt hro i (by omega), List.getElem?_map, List.getD_eq_getElem?_getD, List.getElem?_eq_getElem (by rw [HLL.out]; exact hi)]; rfl
  have HGET := Lib.hid hget
  clear hget
  have ck0 := HGET.out 0 h0 w (Fr.refl _ _)
  obtain ⟨d0, y0, hy0⟩ := (l.getD 0 default).shape
  have HY0 := Lib.hid hy0
  rw [hy0] at ck0
  clear hy0
  have hq1 : (1 : Int) ≤ (n : Int) := by omega
  have hq0 : decide ((n : Int) < 1) = false := by simp; omega
  go_enter Tryz.func29, Tryz.ntmps29
  go_wp2_with fail
  go_loopw [5, 6] (fun mv iv wr => ∃ i : Nat, iv = .int .i64 ((i : Int) + 1) ∧ i + 1 ≤ n ∧ mv = (pickTo (fun x m => decide (0 < x.ord m)) l i).val ∧ Fr (fun _ => False) w wr) (fun mv iv _ => n + 1 - (intOf iv).toNat)
  case atStart => exact ⟨0, rfl, h0, HY0.out.symm, Fr.refl _ _⟩
  case round =>
    obtain ⟨i, rfl, hi, hmv, hf⟩ := hrel
    have hst := HST.out i
    obtain ⟨m, hm⟩ : ∃ m, pickTo (fun x m => decide (0 < x.ord m)) l i = m := ⟨_, rfl⟩
    rw [hm] at hmv hst
    obtain ⟨dm, ym, hym⟩ := m.shape
    have HM := Lib.hid hm
    have HMY := Lib.hid hym
    rw [hym] at hmv
    subst hmv
    have HF := Lib.hid hf
    by_cases hlt : i + 1 < n
    · have hlt' : decide ((i : Int) + 1 < n) = true := by simp; omega
      have ck := HGET.out (i + 1) hlt wr hf
      obtain ⟨x, hx⟩ : ∃ x, l.getD (i + 1) default = x := ⟨_, rfl⟩
      rw [hx] at ck hst
      have HX := Lib.hid hx
      obtain ⟨dx, yx, hyx⟩ := x.shape
      have HXY := Lib.hid hyx
      rw [hyx] at ck
      have ho := HO.out x m wr
      rw [hyx, hym] at ho
      obtain ⟨o, hoo⟩ : ∃ o, x.ord m = o := ⟨_, rfl⟩
      rw [hoo] at ho hst
      have HOC := Lib.hid ho
      clear hx hm hyx hym hf ho hoo
      by_cases hc : 0 < o
      · have hc' : decide (0 < o) = true := by simp [hc]
        rw [if_pos hc'] at hst
        have HS := Lib.hid hst
        clear hst hc
        go_wp2_with fail
        refine HOC.out.mono ?_
        rintro e w1 ⟨rfl, hf1⟩
        have HF1 := Lib.hid (HF.out.trans' hf1)
        have ck1 := HGET.out (i + 1) hlt w1 HF1.out
        rw [HX.out, HXY.out] at ck1
        clear hf1 ck
        go_wp2_with fail
        go_roundw
        case rel => exact ⟨i + 1, by go_num, hlt, by rw [HS.out, HXY.out], HF1.out⟩
        case measure => simp [intOf]; omega
      · have hc' : decide (0 < o) = false := by simp [hc]
        rw [if_neg (by rw [hc']; decide)] at hst
        have HS := Lib.hid hst
        clear hst hc
        go_wp2_with fail
        refine HOC.out.mono ?_
        rintro e w1 ⟨rfl, hf1⟩
        have HF1 := Lib.hid (HF.out.trans' hf1)
        clear hf1 ck
        go_wp2_with fail
        go_roundw
        case rel => exact ⟨i + 1, by go_num, hlt, by rw [HS.out, HMY.out], HF1.out⟩
        case measure => simp [intOf]; omega
    · have hlt' : decide ((i : Int) + 1 < n) = false := by simp; omega
      have e : n - 1 = i := by omega
      have HE := Lib.hid e
      clear hst e
      go_wp2_with fail
      go_ret
      exact ⟨by rw [HE.out, HM.out, HMY.out]; rfl, HF.out⟩

end Go.Proofs.YtflhmieeidnpgaaGreatDoor
