/- A part of the proofs over a buffer of what comes late: contracts of the functions, each by a walk. -/
import Derived.Test.YtgcmdoinihehcaaWe
import Derived.WalkKit
import Derived.WalkLawsBesides
import Derived.WalkSpells
import Derived.Deep.QuietTactic
import Derived.BigRegion
import Derived.BigQuiet
import Derived.Lib.Hide
import Derived.Outline
import Derived.Deep.AppendLies
import Derived.Deep.RegionLaw
import Derived.Deep.RegionWith
import Derived.Deep.RegionHeld3
import Derived.Deep.LoopGhost
import Derived.Deep.DeepFit
import Derived.Laws.ResultCell
import Derived.Deep.MidRow
import Derived.StillTailTactics
namespace Go.Proofs.Ytgcmdoinihehcaa
set_option linter.unusedVariables false
open Go.RowKit Go
attribute [local go_sem] m_push m_pop m_len m_less m_swap run_assert

theorem first_any (B b : Nat) (cs : Array Value) (v : Value) (q : Array Item) (m : Nat) (w : World) (h : PQ w B b cs v q) (hs : q.size = m + 1) (hn : q.size ≤ 1000) (hh : IsHeap q q.size) :
    Calls Try.prog 27 #[.pointer (some ⟨b, 0, none⟩)] w fun e w' => ∃ v' q', e = .returned (itemAgg q[0]!) ∧ PQ w' B b (cs.setIfInBounds 0 v') v' q' ∧ IsHeap q' q'.size ∧ (q[0]! :: q'.toList).Perm q.toList ∧ Fr (fun j => j = b ∨ v.ownBlock = some j) w w' ∧ v'.ownBlock = v.ownBlock := by
  have c0 := h.cell0
  have hlt := h.blk.lt
  have hol := (World.ownsRow.lt h.row)
  have hA := fun o : Obj => hpop_any B b cs v q m (w.alloc o) (h.fr ((Fr.refl (fun _ => False) w).alloc o) (fun h => h) (fun _ _ h => h)) hs hn hh
  have HA := Lib.hid hA
  have HO := Lib.hid hol
  clear hA hs hn hh hol
  generalize hx : q[0]! = x at *
  have HX := Lib.hid hx
  clear hx
  go_enter Try.func27, Try.ntmps27
  go_wp2_with fail
  refine (HA.out _).mono ?_
  rintro e w1 ⟨v', q', rfl, hp, hh, hpm, hf, ho⟩
  unfold itemAgg
  have hb0 := (Blk.new w 41 #[.int .i64 0, .int .i64 0, .int .i64 0, .int .i64 0, .int .i64 0]).fr hf (by
    rintro (e | e)
    · omega
    · have := (HO.out _ e).2; omega)
  have k0 := hb0.cell 0
  have k1 := hb0.cell 1
  have k2 := hb0.cell 2
  have k3 := hb0.cell 3
  have k4 := hb0.cell 4
  have f0 := hb0.frozen 0
  have f1 := hb0.frozen 1
  have f2 := hb0.frozen 2
  have f3 := hb0.frozen 3
  have f4 := hb0.frozen 4
  go_wp2_with fail
  have hb5 := ((((hb0.set_ 0 (.int .i64 x.t)).set_ 1 (.int .i64 x.s)).set_ 2 (.int .i64 x.k0)).set_ 3 (.int .i64 x.k1)).set_ 4 (.int .i64 x.k2)
  have hf5 : Fr (fun j => j = w.heap.size) w1 (((((w1.setCell ⟨w.heap.size, 0, none⟩ (.int .i64 x.t)).setCell ⟨w.heap.size, 1, none⟩ (.int .i64 x.s)).setCell ⟨w.heap.size, 2, none⟩ (.int .i64 x.k0)).setCell ⟨w.heap.size, 3, none⟩ (.int .i64 x.k1)).setCell ⟨w.heap.size, 4, none⟩ (.int .i64 x.k2)) := by
    iterate 5 (refine Fr.setCell ?_ _ (by intro _; rfl) _)
    exact Fr.refl _ _
  clear k0 k1 k2 k3 k4 f0 f1 f2 f3 f4 hb0
  generalize (((((w1.setCell ⟨w.heap.size, 0, none⟩ (.int .i64 x.t)).setCell ⟨w.heap.size, 1, none⟩ (.int .i64 x.s)).setCell ⟨w.heap.size, 2, none⟩ (.int .i64 x.k0)).setCell ⟨w.heap.size, 3, none⟩ (.int .i64 x.k1)).setCell ⟨w.heap.size, 4, none⟩ (.int .i64 x.k2)) = w5 at *
  refine bodyPost_ret (v := itemAgg x) (results_cell_row rfl _ _ w.heap.size 41 _ (0, 0) _ rfl hb5 Try.underlying41 rfl (by kernel_rfl)) rfl ⟨v', q', rfl, hp.fr hf5 (by omega) (fun k hk e => ?_), hh, hpm, ?_, ho⟩
  · rw [ho] at hk
    have := (HO.out _ hk).2
    omega
  · exact (((Fr.refl (fun j => j = b ∨ v.ownBlock = some j) w).alloc _).trans' hf).trans hf5 (fun i hi e => by omega)

end Go.Proofs.Ytgcmdoinihehcaa
