/- No item that binds is a filter: walked. -/
import Derived.Test.YtebddgdkndmpjaaGreatDoorAm
import Derived.Deep.CutBlock
import Derived.Deep.RegionLawGrows
import Derived.Deep.Cut
import Derived.Deep.CutRange
import Derived.WalkKit
import Derived.WalkLawsBesides
import Derived.WalkSpells
import Derived.Deep.QuietTactic
import Derived.BigRegion
import Derived.BigQuiet
import Derived.Lib.Hide
import Derived.Outline
import Derived.Deep.AppendLies
import Derived.Deep.RegionLaw
import Derived.Deep.RegionWith
import Derived.Deep.RegionHeld3
import Derived.Deep.LoopGhost
import Derived.Deep.DeepFit
import Derived.Laws.ResultCell
import Derived.Laws.RangeAny
import Derived.Deep.MidRow
import Derived.StillTailTactics
import Derived.OpenShut
namespace Go.Proofs.YtebddgdkndmpjaaGreatDoor
set_option linter.unusedVariables false
open Go.RowKit Go

set_option maxRecDepth 100000 in
set_option maxHeartbeats 4000000 in
theorem not141 (k : Nat) (p1 p2 p3 : Value) (w : World) : Calls Tryz.prog 141 #[.agg (litItem k), p1, p2, p3] w fun e w' => e = .returned (.bool false) ∧ Fr (fun _ => False) w w' := by
  obtain ⟨d0, x9, hsh⟩ := Tm.shape (smallTm k)
  unfold litItem
  rw [hsh]
  generalize letters.getD k ByteArray.empty = y
  clear hsh
  go_enter Tryz.func141, Tryz.ntmps141
  go_wp2_with fail
  go_big_quiet (fail)
  go_wp2_with fail
  go_ret
  exact ⟨rfl, ((Fr.refl _ _).alloc _).drewN _⟩

set_option maxRecDepth 100000 in
set_option maxHeartbeats 4000000 in
theorem idxL (n c B : Nat) (A : Option Addr) (p1 p2 p3 : Value) (w : World) (hn : n ≤ 9) (hi : ItemsAt w B (.slice A n c) n) : Calls Tryz.prog 197 #[.slice A n c, .func (.func 141) #[] #[p1, p2, p3]] w fun e w' => e = .returned (.int .i64 (-1)) ∧ Fr (fun _ => False) w w' := by
  have HN := Lib.hid (fun k w => not141 k p1 p2 p3 w)
  have HI := Lib.hid hi
  clear hi
  go_enter Tryz.func197, Tryz.ntmps197
  go_wp2_with fail
  go_loopw [8] (fun iv wr => ∃ k : Nat, iv = .int .i64 (k : Int) ∧ k ≤ n ∧ Fr (fun _ => False) w wr) (fun iv _ => n - (intOf iv).toNat)
  case atStart => exact ⟨0, rfl, Nat.zero_le _, Fr.refl _ _⟩
  case round =>
    obtain ⟨k, rfl, hk, hf⟩ := hrel
    have HF := Lib.hid hf
    by_cases hlt : k < n
    · have hlt' : (k : Int) < (n : Int) := by omega
      obtain ⟨g, rfl, _, _, _⟩ := row_form HI.out (by omega)
      have hrg := (ItemsAt.fr HI.out hf (fun _ _ h => h)).range hlt
      have HNK := Lib.hid (HN.out k wr)
      unfold litItem at HNK
      obtain ⟨d0, x9, hsh⟩ := Tm.shape (smallTm k)
      rw [hsh] at hrg HNK
      generalize letters.getD k ByteArray.empty = y at *
      have HRG := Lib.hid hrg
      clear hsh hf hrg
      go_wp2_with (refine wpList_load_mid rfl 46 _ rfl g (k * 17) rfl _ _ HRG.out Tryz.underlying46 rfl info46 ?_)
      refine HNK.out.mono ?_
      rintro e w2 ⟨rfl, hf2⟩
      have HF2 := Lib.hid (HF.out.trans' hf2)
      clear hf2
      go_wp2_with fail
      go_roundw
      case rel => exact ⟨k + 1, by go_num, by omega, HF2.out⟩
      case measure => simp only [intOf]; omega
    · have hlt' : ¬ (k : Int) < (n : Int) := by omega
      clear hf
      go_wp2_with fail
      go_ret
      exact ⟨rfl, HF.out⟩
set_option maxRecDepth 100000 in
set_option maxHeartbeats 4000000 in
theorem hasL (n c B : Nat) (A : Option Addr) (p1 p2 p3 : Value) (w : World) (hn : n ≤ 9) (hi : ItemsAt w B (.slice A n c) n) : Calls Tryz.prog 140 #[.slice A n c, .func (.func 141) #[] #[p1, p2, p3]] w fun e w' => e = .returned (.bool false) ∧ Fr (fun _ => False) w w' := by
  have HI := Lib.hid (idxL n c B A p1 p2 p3 w hn hi)
  clear hi
  go_enter Tryz.func140, Tryz.ntmps140
  go_wp2_with fail
  refine HI.out.mono ?_
  rintro e w1 ⟨rfl, hf⟩
  have HF := Lib.hid hf
  clear hf
  go_wp2_with fail
  go_ret
  exact ⟨rfl, HF.out⟩

set_option maxRecDepth 100000 in
set_option maxHeartbeats 4000000 in
theorem keepL (gb vb m vc n c k rc nn cc B : Nat) (V A R G : Option Addr) (p : Value) (w : World) (hn : nn ≤ 9) (hi : ItemsAt w B (.slice G nn cc) nn) (hg : Blk w gb 27 #[.slice G nn cc]) :
    Calls Tryz.prog 139 #[.agg #[.slice V m vc, .slice A n c], .slice R k rc, .pointer (some ⟨gb, 0, none⟩), p] w (IsB true w) := by
  have F0 : Fr (fun _ => False) w ((w.alloc (.cells #[.slice V m vc, .slice A n c] 63)).alloc (.cells #[.slice R k rc] 48)) := ((Fr.refl _ _).alloc _).alloc _
  have HH := Lib.hid (fun p1 p2 p3 => hasL nn cc B G p1 p2 p3 _ hn (hi.fr F0 (fun _ _ h => h)))
  have g0 : w.cell? ⟨gb, 0, none⟩ = some (.slice G nn cc) := hg.cell 0
  have hg1 := hg.lt
  have HF0 := Lib.hid F0
  clear hg hi F0
  go_enter Tryz.func139, Tryz.ntmps139
  go_wp2_with fail
  refine (HH.out _ _ _).mono ?_
  rintro e w1 ⟨rfl, hf⟩
  have HF := Lib.hid (HF0.out.trans' hf)
  clear hf
  go_wp2_with fail
  go_ret
  exact ⟨rfl, HF.out⟩

end Go.Proofs.YtebddgdkndmpjaaGreatDoor
