/- Integers as terms; how many rows there are; the document's example: walked. -/
import Derived.Test.YtebddgdkndmpjaaGreatDoorSh
import Derived.Test.YtebddgdkndmpjaaGreatDoorGl
import Derived.Deep.CutBlock
import Derived.Deep.RegionLawGrows
import Derived.Deep.Cut
import Derived.Deep.CutRange
import Derived.WalkKit
import Derived.WalkLawsBesides
import Derived.WalkSpells
import Derived.Deep.QuietTactic
import Derived.BigRegion
import Derived.BigQuiet
import Derived.Lib.Hide
import Derived.Outline
import Derived.Deep.AppendLies
import Derived.Deep.RegionLaw
import Derived.Deep.RegionWith
import Derived.Deep.RegionHeld3
import Derived.Deep.LoopGhost
import Derived.Deep.DeepFit
import Derived.Laws.ResultCell
import Derived.Laws.RangeAny
import Derived.Deep.MidRow
import Derived.StillTailTactics
import Derived.OpenShut
namespace Go.Proofs.YtebddgdkndmpjaaGreatDoor
set_option linter.unusedVariables false
open Go.RowKit Go

def xInt : ByteArray := ⟨#[104, 116, 116, 112, 58, 47, 47, 119, 119, 119, 46, 119, 51, 46, 111, 114, 103, 47, 50, 48, 48, 49, 47, 88, 77, 76, 83, 99, 104, 101, 109, 97, 35, 105, 110, 116, 101, 103, 101, 114]⟩
def smallTm (i : Nat) : Tm := .lit ⟨(Lib.decDigits i).toArray⟩ xInt ⟨#[]⟩

set_option maxHeartbeats 1000000 in
theorem text_small (i : Nat) (hi : i < 100) (w : World) : Calls Tryz.prog 73 #[.int .i64 i] w fun e w' => e = .returned (.string ⟨(Lib.decDigits i).toArray⟩) ∧ w = w' := by
  have HF := Lib.hid (Tryz.strconv_FormatInt_10_small i hi w)
  generalize (⟨(Lib.decDigits i).toArray⟩ : ByteArray) = s at *
  go_enter Tryz.func73, Tryz.ntmps73
  go_wp2_with fail
  refine HF.out.mono ?_
  rintro e w1 ⟨rfl, rfl⟩
  go_wp2_with fail
  go_ret
  exact ⟨rfl, rfl⟩

set_option maxRecDepth 100000 in
set_option maxHeartbeats 4000000 in
theorem int_small (i : Nat) (hi : i < 100) (w : World) : Calls Tryz.prog 24 #[.int .i64 i] w fun e w' => e = .returned (.agg #[.string ⟨(Lib.decDigits i).toArray⟩, .string xInt, .string ⟨#[]⟩]) ∧ Fr (fun _ => False) w w' := by
  have HF := Lib.hid (fun w => text_small i hi w)
  generalize (⟨(Lib.decDigits i).toArray⟩ : ByteArray) = s at *
  have HX := Lib.hid (show xInt = ⟨#[104, 116, 116, 112, 58, 47, 47, 119, 119, 119, 46, 119, 51, 46, 111, 114, 103, 47, 50, 48, 48, 49, 47, 88, 77, 76, 83, 99, 104, 101, 109, 97, 35, 105, 110, 116, 101, 103, 101, 114]⟩ from rfl)
  generalize xInt = x at *
  go_enter Tryz.func24, Tryz.ntmps24
  go_wp2_with fail
  refine (HF.out _).mono ?_
  rintro e w1 ⟨rfl, rfl⟩
  go_wp2_with fail
  rw [← HX.out]
  exact bodyPost_ret (v := .agg #[.string s, .string x, .string ⟨#[]⟩]) (results_cell_row rfl _ _ w.heap.size 78 _ (0, 0) _ rfl (Blk.new w 78 #[.string s, .string x, .string ⟨#[]⟩]) Tryz.underlying78 rfl (by kernel_rfl)) rfl ⟨rfl, (Fr.refl _ _).alloc _⟩

noncomputable def sameB (t u : Tm) : Bool := @decide (t = u) (Classical.propDecidable _)
theorem sameB_iff {t u : Tm} : sameB t u = true ↔ t = u := @decide_eq_true_iff (t = u) (Classical.propDecidable _)
theorem eql_tm (t u : Tm) (w : World) : (binOp .eql 35 t.val u.val).run Tryz.prog w = .ok (.bool (sameB t u)) w := by
  obtain ⟨b, hb, hbt⟩ := eq_tm t u w
  have e : b = sameB t u := by
    cases h : sameB t u with
    | true => exact hbt.2 (sameB_iff.1 h)
    | false =>
      cases b with
      | true =>
        rw [sameB_iff.2 (hbt.1 rfl)] at h
        cases h
      | false => rfl
  have h2 : (binOp .eql 35 t.val u.val) = (do pure (Value.bool (← Op.equal 35 t.val u.val)) : Sem Value) := by
    cases t <;> cases u <;> rfl
  rw [h2, Sem.run_bind, hb, e]
  rfl

set_option maxRecDepth 100000 in
set_option maxHeartbeats 4000000 in
theorem same_any (t u : Tm) (w : World) : Calls Tryz.prog 35 #[t.val, u.val] w fun e w' => e = .returned (.bool (sameB t u)) ∧ w = w' := by
  have HK := Lib.hid (fun w => kind_any t w)
  have hq := fun w => eql_tm t u w
  have hk : t.kind < 3 := by
    cases t
    · exact (by decide : (0 : Int) < 3)
    · exact (by decide : (1 : Int) < 3)
    · exact (by decide : (2 : Int) < 3)
  generalize sameB t u = b at *
  obtain ⟨d, x, ht⟩ := t.shape
  obtain ⟨d', x', hu⟩ := u.shape
  rw [ht] at HK hq ⊢
  rw [hu] at hq ⊢
  have HT := Lib.hid ht
  have HU := Lib.hid hu
  clear ht hu
  go_enter Tryz.func35, Tryz.ntmps35
  go_wp2_with fail
  refine (HK.out _).mono ?_
  rintro e w1 ⟨rfl, rfl⟩
  go_wp2_with fail
  go_ret
  exact ⟨rfl, rfl⟩

end Go.Proofs.YtebddgdkndmpjaaGreatDoor
