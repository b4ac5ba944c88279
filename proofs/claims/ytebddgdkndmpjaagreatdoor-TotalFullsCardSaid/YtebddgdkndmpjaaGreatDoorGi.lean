/- Terms as values; their kind; whether one is good: walked. -/
import Derived.Test.YtebddgdkndmpjaaGreatDoorGh
import Derived.Deep.CutBlock
import Derived.Deep.RegionLawGrows
import Derived.Deep.Cut
import Derived.Deep.CutRange
import Derived.WalkKit
import Derived.WalkLawsBesides
import Derived.WalkSpells
import Derived.Deep.QuietTactic
import Derived.BigRegion
import Derived.BigQuiet
import Derived.Lib.Hide
import Derived.Outline
import Derived.Deep.AppendLies
import Derived.Deep.RegionLaw
import Derived.Deep.RegionWith
import Derived.Deep.RegionHeld3
import Derived.Deep.LoopGhost
import Derived.Deep.DeepFit
import Derived.Laws.ResultCell
import Derived.Laws.RangeAny
import Derived.Deep.MidRow
import Derived.StillTailTactics
import Derived.OpenShut
namespace Go.Proofs.YtebddgdkndmpjaaGreatDoor
set_option linter.unusedVariables false
open Go.RowKit Go

/-- A term. -/
inductive Tm where
  | bla (a : ByteArray)
  | iri (a : ByteArray)
  | lit (a b c : ByteArray)
def Tm.val : Tm → Value
  | .bla a => .iface 196 (.agg #[.string a])
  | .iri a => .iface 198 (.agg #[.string a])
  | .lit a b c => .iface 78 (.agg #[.string a, .string b, .string c])
def Tm.kind : Tm → Int
  | .bla _ => 0
  | .iri _ => 1
  | .lit _ _ _ => 2
/-- Its texts aren't long. -/
def Tm.short : Tm → Prop
  | .bla a => a.size ≤ 4096
  | .iri a => a.size ≤ 4096
  | .lit a b c => a.size ≤ 4096 ∧ b.size ≤ 4096 ∧ c.size ≤ 4096

theorem as_bb (x : Value) (w : World) : (Instr.typeAssert (.iface 196 x) 35 196 true).run Tryz.prog w = .ok (.tuple #[x, .bool true]) w := by kernel_rfl
theorem as_ib (x : Value) (w : World) : (Instr.typeAssert (.iface 198 x) 35 196 true).run Tryz.prog w = .ok (.tuple #[.agg #[.string ⟨#[]⟩], .bool false]) w := by kernel_rfl
theorem as_lb (x : Value) (w : World) : (Instr.typeAssert (.iface 78 x) 35 196 true).run Tryz.prog w = .ok (.tuple #[.agg #[.string ⟨#[]⟩], .bool false]) w := by kernel_rfl
theorem as_ii (x : Value) (w : World) : (Instr.typeAssert (.iface 198 x) 35 198 true).run Tryz.prog w = .ok (.tuple #[x, .bool true]) w := by kernel_rfl
theorem as_li (x : Value) (w : World) : (Instr.typeAssert (.iface 78 x) 35 198 true).run Tryz.prog w = .ok (.tuple #[.agg #[.string ⟨#[]⟩], .bool false]) w := by kernel_rfl
theorem as_ll (x : Value) (w : World) : (Instr.typeAssert (.iface 78 x) 35 78 true).run Tryz.prog w = .ok (.tuple #[x, .bool true]) w := by kernel_rfl
theorem mt_b (x : Value) (w : World) : (method 609 196 x "Good").run Tryz.prog w = .ok (433, x) w := by kernel_rfl
theorem mt_i (x : Value) (w : World) : (method 609 198 x "Good").run Tryz.prog w = .ok (416, x) w := by kernel_rfl
theorem mt_l (x : Value) (w : World) : (method 609 78 x "Good").run Tryz.prog w = .ok (414, x) w := by kernel_rfl
attribute [local go_sem] as_bb as_ib as_lb as_ii as_li as_ll mt_b mt_i mt_l

theorem kind_any (t : Tm) (w : World) : Calls Tryz.prog 84 #[t.val] w fun e w' => e = .returned (.int .i64 t.kind) ∧ w = w' := by
  cases t with
  | bla a =>
    unfold Tm.val Tm.kind
    go_enter Tryz.func84, Tryz.ntmps84
    go_wp2_with fail
    go_ret
    exact ⟨rfl, rfl⟩
  | iri a =>
    unfold Tm.val Tm.kind
    go_enter Tryz.func84, Tryz.ntmps84
    go_wp2_with fail
    go_ret
    exact ⟨rfl, rfl⟩
  | lit a b c =>
    unfold Tm.val Tm.kind
    go_enter Tryz.func84, Tryz.ntmps84
    go_wp2_with fail
    go_ret
    exact ⟨rfl, rfl⟩

/-- Is a term good? (Of texts that aren't too long.) -/
def Tm.good : Tm → Bool
  | .bla a => blankGood a
  | .iri a => iriGood a
  | .lit a b c => litGood a b c

set_option maxRecDepth 100000 in
set_option maxHeartbeats 4000000 in
theorem tgood_any (t : Tm) (w : World) (hs : t.short) : Calls Tryz.prog 72 #[t.val] w (IsB t.good w) := by
  have HK := Lib.hid (fun w => kind_any t w)
  cases t with
  | bla a =>
    unfold Tm.val Tm.kind at HK
    unfold Tm.val Tm.good
    have HB := Lib.hid (fun w => blank_any a w hs)
    clear hs
    go_enter Tryz.func72, Tryz.ntmps72
    go_wp2_with fail
    refine (HK.out _).mono ?_
    rintro e w1 ⟨rfl, rfl⟩
    go_wp2_with fail
    refine (HB.out _).mono ?_
    rintro e w1 ⟨rfl, hf⟩
    go_wp2_with fail
    go_ret
    exact IsB.mk hf
  | iri a =>
    unfold Tm.val Tm.kind at HK
    unfold Tm.val Tm.good
    have HB := Lib.hid (fun w => iri_any a w hs)
    clear hs
    go_enter Tryz.func72, Tryz.ntmps72
    go_wp2_with fail
    refine (HK.out _).mono ?_
    rintro e w1 ⟨rfl, rfl⟩
    go_wp2_with fail
    refine (HB.out _).mono ?_
    rintro e w1 ⟨rfl, hf⟩
    go_wp2_with fail
    go_ret
    exact IsB.mk hf
  | lit a b c =>
    unfold Tm.val Tm.kind at HK
    unfold Tm.val Tm.good
    obtain ⟨h1, h2, h3⟩ := hs
    have HB := Lib.hid (fun w => literal_any a b c w h1 h2 h3)
    clear h1 h2 h3
    go_enter Tryz.func72, Tryz.ntmps72
    go_wp2_with fail
    refine (HK.out _).mono ?_
    rintro e w1 ⟨rfl, rfl⟩
    go_wp2_with fail
    refine (HB.out _).mono ?_
    rintro e w1 ⟨rfl, hf⟩
    go_wp2_with fail
    go_ret
    exact IsB.mk hf

end Go.Proofs.YtebddgdkndmpjaaGreatDoor
