/- What a var stands for in a table's rows, and its sum: walked. -/
import Derived.Test.YtebddgdkndmpjaaGreatDoorGl
import Derived.Test.YtebddgdkndmpjaaGreatDoorHf
import Derived.Laws.Externs
import Derived.Deep.CutBlock
import Derived.Deep.RegionLawGrows
import Derived.Deep.Cut
import Derived.Deep.CutRange
import Derived.WalkKit
import Derived.WalkLawsBesides
import Derived.WalkSpells
import Derived.Deep.QuietTactic
import Derived.BigRegion
import Derived.BigQuiet
import Derived.Lib.Hide
import Derived.Outline
import Derived.Deep.AppendLies
import Derived.Deep.RegionLaw
import Derived.Deep.RegionWith
import Derived.Deep.RegionHeld3
import Derived.Deep.LoopGhost
import Derived.Deep.DeepFit
import Derived.Laws.ResultCell
import Derived.Laws.RangeAny
import Derived.Deep.MidRow
import Derived.StillTailTactics
import Derived.OpenShut
namespace Go.Proofs.YtebddgdkndmpjaaGreatDoor
set_option linter.unusedVariables false
open Go.RowKit Go

def termN (ts : List Tm) (n : Int) : Option Tm := if 0 ≤ n then ts[n.toNat]? else none
set_option maxRecDepth 100000 in
set_option maxHeartbeats 4000000 in
theorem has_any (B b r : Nat) (vt : Value) (ts : List Tm) (room n : Int) (w : World) (hd : IsDict w B b r vt ts room) (hl : ts.length ≤ 100000) :
    Calls Tryz.prog 83 #[.pointer (some ⟨b, 0, none⟩), .int .i64 n] w fun e w' => e = .returned (.bool (termN ts n).isSome) ∧ w = w' := by
  obtain ⟨A, c, hv⟩ := row_shape hd.row
  subst hv
  have c0 : w.cell? ⟨b, 0, none⟩ = some (.slice A ts.length c) := hd.blk.cell 0
  clear hd
  unfold termN
  by_cases h0 : 0 ≤ n
  · rw [if_pos h0]
    by_cases h1 : n < (ts.length : Int)
    · have e : (ts[n.toNat]?).isSome = true := by rw [List.getElem?_eq_getElem (by omega)]; rfl
      rw [e]
      clear e
      go_enter Tryz.func83, Tryz.ntmps83
      go_wp2_with fail
      go_ret
      exact ⟨rfl, rfl⟩
    · have e : (ts[n.toNat]?).isSome = false := by rw [List.getElem?_eq_none (by omega)]; rfl
      rw [e]
      clear e
      go_enter Tryz.func83, Tryz.ntmps83
      go_wp2_with fail
      go_ret
      exact ⟨rfl, rfl⟩
  · rw [if_neg h0]
    have e : (none : Option Tm).isSome = false := rfl
    rw [e]
    clear e
    go_enter Tryz.func83, Tryz.ntmps83
    go_wp2_with fail
    go_ret
    exact ⟨rfl, rfl⟩

def termV : Option Tm → Value
  | some t => t.val
  | none => .nilIface
def termE : Option Tm → Int
  | some _ => 0
  | none => 4
set_option maxRecDepth 100000 in
set_option maxHeartbeats 4000000 in
theorem term_any (B b r : Nat) (vt : Value) (ts : List Tm) (room n : Int) (w : World) (hd : IsDict w B b r vt ts room) (hl : ts.length ≤ 100000) :
    Calls Tryz.prog 34 #[.pointer (some ⟨b, 0, none⟩), .int .i64 n] w fun e w' => e = .returned (.tuple #[termV (termN ts n), .int .i64 (termE (termN ts n))]) ∧ w = w' := by
  have HH := Lib.hid (has_any B b r vt ts room n w hd hl)
  cases ht : termN ts n with
  | none =>
    rw [ht] at HH
    clear hd ht
    unfold termV termE
    dsimp only [Option.isSome_none] at HH
    go_enter Tryz.func34, Tryz.ntmps34
    go_wp2_with fail
    refine HH.out.mono ?_
    rintro e w1 ⟨rfl, rfl⟩
    go_wp2_with fail
    go_ret2
    exact ⟨rfl, rfl⟩
  | some t =>
    rw [ht] at HH
    have h0 : 0 ≤ n := by
      unfold termN at ht
      split at ht
      · assumption
      · cases ht
    have h1 : ts[n.toNat]? = some t := by
      unfold termN at ht
      rw [if_pos h0] at ht
      exact ht
    obtain ⟨k, rfl⟩ : ∃ k : Nat, n = (k : Int) := ⟨n.toNat, by omega⟩
    rw [Int.toNat_natCast] at h1
    have hlt := (List.getElem?_eq_some_iff.1 h1).1
    obtain ⟨g, c, hv⟩ := row_pos hd.row (by omega)
    have cr := World.ownsRow.cellAt (hv ▸ hd.row) k (by omega)
    rw [List.getElem?_map, h1] at cr
    have hk : (k : Int) < (ts.length : Int) := by omega
    subst hv
    have c0 : w.cell? ⟨b, 0, none⟩ = some (.slice (some ⟨g, 0, none⟩) ts.length c) := hd.blk.cell 0
    unfold termV termE
    obtain ⟨d, x, hx⟩ := t.shape
    dsimp only
    rw [hx]
    have cr2 : w.cell? ⟨g, k, none⟩ = some (.iface d x) := by rw [← hx]; exact cr
    clear hd ht h0 h1 hlt cr hx
    dsimp only [Option.isSome_some] at HH
    go_enter Tryz.func34, Tryz.ntmps34
    go_wp2_with fail
    refine HH.out.mono ?_
    rintro e w1 ⟨rfl, rfl⟩
    go_wp2_with fail
    go_ret2
    exact ⟨rfl, rfl⟩

end Go.Proofs.YtebddgdkndmpjaaGreatDoor
