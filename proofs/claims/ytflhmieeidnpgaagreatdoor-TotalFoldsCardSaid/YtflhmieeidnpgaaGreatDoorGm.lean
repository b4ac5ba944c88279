/- The document's terms: Plain, Real: walked. -/
import Derived.Test.YtflhmieeidnpgaaGreatDoorGl
import Derived.Deep.CutBlock
import Derived.Deep.RegionLawGrows
import Derived.Deep.Cut
import Derived.Deep.CutRange
import Derived.WalkKit
import Derived.WalkLawsBesides
import Derived.WalkSpells
import Derived.Deep.QuietTactic
import Derived.BigRegion
import Derived.BigQuiet
import Derived.Lib.Hide
import Derived.Outline
import Derived.Deep.AppendLies
import Derived.Deep.RegionLaw
import Derived.Deep.RegionWith
import Derived.Deep.RegionHeld3
import Derived.Deep.LoopGhost
import Derived.Deep.DeepFit
import Derived.Laws.ResultCell
import Derived.Laws.RangeAny
import Derived.Deep.MidRow
import Derived.StillTailTactics
import Derived.OpenShut
namespace Go.Proofs.YtflhmieeidnpgaaGreatDoor
set_option linter.unusedVariables false
open Go.RowKit Go

/-- A term of the document's. -/
structure DT where
  kind : Int
  text : ByteArray
  type : ByteArray
  lang : ByteArray
def DT.cells (x : DT) : Array Value := #[.int .i64 x.kind, .string x.text, .string x.type, .string x.lang]
def kindOf (k : Int) : Int := wrap64 ((IntKind.u64.wrap k).tmod 3)
theorem kindOf_le (k : Int) : 0 ≤ kindOf k ∧ kindOf k ≤ 2 := by
  have h : 0 ≤ IntKind.u64.wrap k := by
    unfold IntKind.wrap
    simp [IntKind.signed, IntKind.bits]
    omega
  have h2 := Int.tmod_nonneg 3 h
  have h3 := Int.tmod_lt_of_pos (IntKind.u64.wrap k) (show (0 : Int) < 3 by decide)
  unfold kindOf
  have e : wrap64 ((IntKind.u64.wrap k).tmod 3) = (IntKind.u64.wrap k).tmod 3 := by
    unfold wrap64
    omega
  omega
def plainT (x : DT) : DT := if kindOf x.kind = 2 then ⟨2, x.text, x.type, x.lang⟩ else ⟨kindOf x.kind, x.text, ⟨#[]⟩, ⟨#[]⟩⟩

set_option maxRecDepth 100000 in
set_option maxHeartbeats 4000000 in
theorem plainT_any (x : DT) (w : World) : Calls Tryz.prog 19 #[.agg x.cells] w fun e w' => e = .returned (.agg (plainT x).cells) ∧ Fr (fun _ => False) w w' := by
  obtain ⟨k, t, ty, l⟩ := x
  unfold plainT
  obtain ⟨kk, hk⟩ : ∃ kk, wrap64 ((IntKind.u64.wrap k).tmod 3) = kk := ⟨_, rfl⟩
  have HK := Lib.hid (show kindOf k = kk from hk)
  rw [show kindOf (DT.kind ⟨k, t, ty, l⟩) = kk from HK.out]
  unfold DT.cells
  by_cases h2 : kk = 2
  · have h2' : (kk != 2) = false := by simp [h2]
    rw [if_pos h2]
    subst h2
    go_enter Tryz.func19, Tryz.ntmps19
    go_wp2_with fail
    have hb := Blk.new (w.alloc (.cells #[.int .i64 2, .string t, .string ty, .string l] 41)) 41 #[.int .i64 2, .string t, .string ty, .string l]
    have hsz : (w.alloc (.cells #[.int .i64 2, .string t, .string ty, .string l] 41)).heap.size = w.heap.size + 1 := by simp
    rw [hsz] at hb
    exact bodyPost_ret (v := .agg #[.int .i64 2, .string t, .string ty, .string l]) (results_cell_row rfl _ _ (w.heap.size + 1) 41 _ (0, 0) _ rfl hb Tryz.underlying41 rfl (by kernel_rfl)) rfl ⟨rfl, ((Fr.refl _ _).alloc _).alloc _⟩
  · have h2' : (kk != 2) = true := by simp [h2]
    rw [if_neg h2]
    clear h2
    go_enter Tryz.func19, Tryz.ntmps19
    go_wp2_with fail
    have hb := Blk.new (w.alloc (.cells #[.int .i64 kk, .string t, .string ⟨#[]⟩, .string ⟨#[]⟩] 41)) 41 #[.int .i64 kk, .string t, .string ⟨#[]⟩, .string ⟨#[]⟩]
    have hsz : (w.alloc (.cells #[.int .i64 kk, .string t, .string ⟨#[]⟩, .string ⟨#[]⟩] 41)).heap.size = w.heap.size + 1 := by simp
    rw [hsz] at hb
    exact bodyPost_ret (v := .agg #[.int .i64 kk, .string t, .string ⟨#[]⟩, .string ⟨#[]⟩]) (results_cell_row rfl _ _ (w.heap.size + 1) 41 _ (0, 0) _ rfl hb Tryz.underlying41 rfl (by kernel_rfl)) rfl ⟨rfl, ((Fr.refl _ _).alloc _).alloc _⟩

/-- A term of the document's as the program's. -/
def toTm (x : DT) : Tm := if x.kind = 0 then .bla x.text else if x.kind = 1 then .iri x.text else .lit x.text x.type x.lang

set_option maxRecDepth 100000 in
set_option maxHeartbeats 4000000 in
theorem realT_any (x : DT) (w : World) (hk0 : 0 ≤ x.kind) (hk2 : x.kind ≤ 2) : Calls Tryz.prog 22 #[.agg x.cells] w fun e w' => e = .returned (toTm x).val ∧ Fr (fun _ => False) w w' := by
  obtain ⟨k, t, ty, l⟩ := x
  simp only at hk0 hk2
  unfold toTm DT.cells
  simp only
  by_cases h0 : k = 0
  · subst h0
    rw [if_pos rfl]
    unfold Tm.val
    go_enter Tryz.func22, Tryz.ntmps22
    go_wp2_with fail
    go_ret
    exact ⟨rfl, (Fr.refl _ _).alloc _⟩
  · by_cases h1 : k = 1
    · subst h1
      rw [if_neg h0, if_pos rfl]
      clear h0
      unfold Tm.val
      go_enter Tryz.func22, Tryz.ntmps22
      go_wp2_with fail
      go_ret
      exact ⟨rfl, (Fr.refl _ _).alloc _⟩
    · have h2 : k = 2 := by omega
      subst h2
      rw [if_neg h0, if_neg h1]
      clear h0 h1
      unfold Tm.val
      go_enter Tryz.func22, Tryz.ntmps22
      go_wp2_with fail
      go_ret
      exact ⟨rfl, (Fr.refl _ _).alloc _⟩

end Go.Proofs.YtflhmieeidnpgaaGreatDoor
