/- A part of the proofs over a buffer of what comes late: contracts of the functions, each by a walk. -/
import Derived.Test.YtgcmdoinihehcaaMem
import Derived.WalkKit
import Derived.WalkLawsBesides
import Derived.WalkSpells
import Derived.Deep.QuietTactic
import Derived.BigRegion
import Derived.BigQuiet
import Derived.Lib.Hide
import Derived.Outline
import Derived.Deep.AppendLies
import Derived.Deep.RegionLaw
import Derived.Deep.RegionWith
import Derived.Deep.RegionHeld3
import Derived.Deep.LoopGhost
import Derived.Deep.DeepFit
import Derived.Laws.ResultCell
import Derived.Deep.MidRow
import Derived.StillTailTactics
namespace Go.Proofs.Ytgcmdoinihehcaa
set_option linter.unusedVariables false
open Go.RowKit Go

theorem m_push (a : Addr) (w : World) : (method 199 68 (.pointer (some a)) "Push").run Try.prog w = .ok (53, .pointer (some a)) w := by kernel_rfl
theorem m_pop (a : Addr) (w : World) : (method 199 68 (.pointer (some a)) "Pop").run Try.prog w = .ok (52, .pointer (some a)) w := by kernel_rfl
theorem m_len (a : Addr) (w : World) : (method 199 68 (.pointer (some a)) "Len").run Try.prog w =
    (match w.cell? a with | some v => .ok (49, v) w | none => match w.farLoad Try.prog a false with | .ok (v, _) => .ok (49, v) w | .error h => .halt h w) := by kernel_rfl
theorem m_less (a : Addr) (w : World) : (method 199 68 (.pointer (some a)) "Less").run Try.prog w =
    (match w.cell? a with | some v => .ok (50, v) w | none => match w.farLoad Try.prog a false with | .ok (v, _) => .ok (50, v) w | .error h => .halt h w) := by kernel_rfl
theorem m_swap (a : Addr) (w : World) : (method 199 68 (.pointer (some a)) "Swap").run Try.prog w =
    (match w.cell? a with | some v => .ok (51, v) w | none => match w.farLoad Try.prog a false with | .ok (v, _) => .ok (51, v) w | .error h => .halt h w) := by kernel_rfl
attribute [local go_sem] m_push m_pop m_len m_less m_swap

/-- Go's Less. -/
theorem less_any (B : Nat) (v : Value) (q : Array Item) (i k : Nat) (w : World) (hq : QRow w B v q) (hi : i < q.size) (hk : k < q.size) (hn : q.size ≤ 100000) (R : Bool) (hR : ltB q[i]! q[k]! = R) :
    Calls Try.prog 50 #[v, .int .i64 i, .int .i64 k] w fun e w' => e = .returned (.bool R) ∧ ∃ m, w' = w.drewN m := by
  subst hR
  obtain ⟨g, c, rfl, _, _⟩ := hq.form (by omega)
  have ci := hq.cells hi
  have ck := hq.cells hk
  have fin := fun h => ltB_ne (a := q[i]!) (b := q[k]!) h
  have fin2 := fun h => ltB_eq (a := q[i]!) (b := q[k]!) h
  generalize ltB q[i]! q[k]! = R at *
  generalize q[i]! = x at *
  generalize q[k]! = y at *
  generalize q.size = n at *
  clear hq
  obtain ⟨h1, h2, -, -, -⟩ := ci
  obtain ⟨g1, g2, -, -, -⟩ := ck
  have a1 : (i : Int) < (n : Int) := by omega
  have a2 : (k : Int) < (n : Int) := by omega
  by_cases hne : x.t = y.t
  · have hR := Lib.hid (fin2 hne)
    have hb : (x.t != y.t) = false := by simp [hne]
    clear fin fin2 hne
    go_enter Try.func50, Try.ntmps50
    go_wp2_with fail
    go_quiet (fail)
    go_wp2_with fail
    go_quiet (fail)
    go_wp2_with fail
    go_ret
    exact ⟨by rw [hR.out]; rfl, _, World.drewN_drewN _ _ _⟩
  · have hR := Lib.hid (fin hne)
    have hb : (x.t != y.t) = true := by simp [hne]
    clear fin fin2 hne
    go_enter Try.func50, Try.ntmps50
    go_wp2_with fail
    go_quiet (fail)
    go_wp2_with fail
    go_quiet (fail)
    go_wp2_with fail
    go_ret
    exact ⟨by rw [hR.out]; rfl, _, World.drewN_drewN _ _ _⟩

theorem swap_ne (B : Nat) (v : Value) (q : Array Item) (i k : Nat) (w : World) (hq : QRow w B v q) (hi : i < q.size) (hk : k < q.size) (hne : i ≠ k) (hn : q.size ≤ 100000) :
    Calls Try.prog 51 #[v, .int .i64 i, .int .i64 k] w fun e w' => e = .returned (.tuple #[]) ∧ QRow w' B v (swp q i k) ∧ Fr (fun j => v.ownBlock = some j) w w' := by
  obtain ⟨g, c, rfl, _, _⟩ := hq.form (by omega)
  have hs := Lib.hid (show swp q i k = (q.setIfInBounds i q[k]!).setIfInBounds k q[i]! from rfl)
  obtain ⟨h1, h2, h3, h4, h5⟩ := hq.cells hi
  obtain ⟨g1, g2, g3, g4, g5⟩ := hq.cells hk
  have hf := fun o => World.ownsRow.frozenAt hq o
  have S3 := Lib.hid (QRow.store (QRow.store hq hi q[k]!) (i := k) (by simpa using hk) q[i]!)
  generalize q[i]! = x at *
  generalize q[k]! = y at *
  have a1 : (i : Int) < (q.size : Int) := by omega
  have a2 : (k : Int) < (q.size : Int) := by omega
  clear hq
  go_enter Try.func51, Try.ntmps51
  go_wp2_with fail
  go_region
  go_end0
  refine ⟨rfl, by rw [hs.out]; exact QRow.drew S3.out, ?_⟩
  refine Fr.drew ?_
  iterate 10 (refine Fr.setCell ?_ _ (by intro _; rfl) _)
  exact Fr.refl _ _

theorem swap_eq (B : Nat) (v : Value) (q : Array Item) (i : Nat) (w : World) (hq : QRow w B v q) (hi : i < q.size) (hn : q.size ≤ 100000) :
    Calls Try.prog 51 #[v, .int .i64 i, .int .i64 i] w fun e w' => e = .returned (.tuple #[]) ∧ QRow w' B v (swp q i i) ∧ Fr (fun j => v.ownBlock = some j) w w' := by
  obtain ⟨g, c, rfl, _, _⟩ := hq.form (by omega)
  have hs := Lib.hid (show swp q i i = (q.setIfInBounds i q[i]!).setIfInBounds i q[i]! from rfl)
  obtain ⟨h1, h2, h3, h4, h5⟩ := hq.cells hi
  have hf := fun o => World.ownsRow.frozenAt hq o
  have S3 := Lib.hid (QRow.store (QRow.store hq hi q[i]!) (i := i) (by simpa using hi) q[i]!)
  generalize q[i]! = x at *
  have a1 : (i : Int) < (q.size : Int) := by omega
  clear hq
  go_enter Try.func51, Try.ntmps51
  go_wp2_with fail
  go_region
  go_end0
  refine ⟨rfl, by rw [hs.out]; exact QRow.drew S3.out, ?_⟩
  refine Fr.drew ?_
  iterate 10 (refine Fr.setCell ?_ _ (by intro _; rfl) _)
  exact Fr.refl _ _

theorem swap_any (B : Nat) (v : Value) (q : Array Item) (i k : Nat) (w : World) (hq : QRow w B v q) (hi : i < q.size) (hk : k < q.size) (hn : q.size ≤ 100000) :
    Calls Try.prog 51 #[v, .int .i64 i, .int .i64 k] w fun e w' => e = .returned (.tuple #[]) ∧ QRow w' B v (swp q i k) ∧ Fr (fun j => v.ownBlock = some j) w w' := by
  by_cases e : i = k
  · subst e; exact swap_eq B v q i w hq hi hn
  · exact swap_ne B v q i k w hq hi hk e hn

theorem len_any (A : Option Addr) (n c : Nat) (w : World) :
    Calls Try.prog 49 #[.slice A n c] w fun e w' => e = .returned (.int .i64 n) ∧ w = w' := by
  go_enter Try.func49, Try.ntmps49
  go_wp2
  go_ret
  exact ⟨rfl, rfl⟩

end Go.Proofs.Ytgcmdoinihehcaa
