/- A part of the proofs over a buffer of what comes late: contracts of the functions, each by a walk. -/
import Derived.Test.YtgcmdoinihehcaaWa
import Derived.WalkKit
import Derived.WalkLawsBesides
import Derived.WalkSpells
import Derived.Deep.QuietTactic
import Derived.BigRegion
import Derived.BigQuiet
import Derived.Lib.Hide
import Derived.Outline
import Derived.Deep.AppendLies
import Derived.Deep.RegionLaw
import Derived.Deep.RegionWith
import Derived.Deep.RegionHeld3
import Derived.Deep.LoopGhost
import Derived.Deep.DeepFit
import Derived.Laws.ResultCell
import Derived.Deep.MidRow
import Derived.StillTailTactics
namespace Go.Proofs.Ytgcmdoinihehcaa
set_option linter.unusedVariables false
open Go.RowKit Go
attribute [local go_sem] m_push m_pop m_len m_less m_swap
theorem info41 : (Try.prog.info? 41).map (fun i => (i.zero, i.size, i.bytes)) = some (some (.agg #[.int .i64 0, .int .i64 0, .int .i64 0, .int .i64 0, .int .i64 0]), 5, 40) := by kernel_rfl

theorem run_assert (v : Value) (w : World) : (Instr.typeAssert (.iface 41 v) 20 41 false).run Try.prog w = .ok v w := by kernel_rfl
attribute [local go_sem] run_assert

def itemAgg (x : Item) : Value := .agg #[.int .i64 x.t, .int .i64 x.s, .int .i64 x.k0, .int .i64 x.k1, .int .i64 x.k2]

theorem itemCells_one (x : Item) : ∀ u ∈ itemCells x, u.oneCell' = true := by
  intro u hu
  simp only [itemCells, List.mem_cons, List.not_mem_nil, or_false] at hu
  rcases hu with rfl | rfl | rfl | rfl | rfl <;> rfl

/-- A pointer to a row's place, at the head of a block. -/
structure PQ (w : World) (B b : Nat) (cs : Array Value) (v : Value) (q : Array Item) : Prop where
  blk : Blk w b 65 cs
  at0 : cs[0]? = some v
  row : QRow w B v q
  le : B ≤ b

theorem push_close {B b : Nat} {cs : Array Value} {v : Value} {q : Array Item} {x : Item} {w w1 : World} {o : Obj} {g cap : Nat} (hb : Blk w b 65 cs) (h0 : cs[0]? = some v) (hB : B ≤ b) (hb1 : Blk w1 b 65 cs)
    (hown : w1.ownsRow B 41 5 (.slice (some ⟨g, 0, none⟩) (q.size + 1) cap) (q.size + 1) (qCells q ++ itemCells x)) (hf : Fr (fun k => v.ownBlock = some k) (w.alloc o).drew w1) (hor : v.ownBlock = some g ∨ g = w.heap.size + 1) :
    ∃ v', PQ (w1.setCell ⟨b, 0, none⟩ (.slice (some ⟨g, 0, none⟩) (q.size + 1) cap)) B b (cs.setIfInBounds 0 v') v' (q.push x) ∧ Fr (fun j => j = b ∨ v.ownBlock = some j) w (w1.setCell ⟨b, 0, none⟩ (.slice (some ⟨g, 0, none⟩) (q.size + 1) cap)) ∧
      (v'.ownBlock = v.ownBlock ∨ ∃ g, v'.ownBlock = some g ∧ w.heap.size ≤ g) := by
  have hne := own_blk_ne hown hb1 (by decide)
  have hsz : 0 < cs.size := by
    rcases Nat.eq_zero_or_pos cs.size with h | h
    · rw [Array.getElem?_eq_none (by omega)] at h0; cases h0
    · exact h
  refine ⟨.slice (some ⟨g, 0, none⟩) (q.size + 1) cap, ⟨hb1.set_ 0 _, by simp [hsz], ?_, hB⟩, ?_, ?_⟩
  · unfold QRow
    rw [qCells_push, Array.size_push]
    exact ownsRow_fr hown (Fr.setCell (S := fun k => k = b) (Fr.refl _ _) ⟨b, 0, none⟩ (fun _ => rfl) _) (fun k hk e => hne (by rw [hk, e]))
  · have h1 : Fr (fun j => j = b ∨ v.ownBlock = some j) w w1 := ((Fr.refl _ w).alloc o).drew.trans hf fun i _ h => .inr h
    exact h1.setCell _ (fun _ => .inl rfl) _
  · rcases hor with h | h
    · exact .inl h.symm
    · exact .inr ⟨g, rfl, by omega⟩

theorem push_any (B b : Nat) (cs : Array Value) (v : Value) (q : Array Item) (x : Item) (w : World) (h : PQ w B b cs v q) (hn : q.size ≤ 1000) :
    Calls Try.prog 53 #[.pointer (some ⟨b, 0, none⟩), .iface 41 (itemAgg x)] w fun e w' => e = .returned (.tuple #[]) ∧ ∃ v', PQ w' B b (cs.setIfInBounds 0 v') v' (q.push x) ∧ Fr (fun j => j = b ∨ v.ownBlock = some j) w w' ∧ (v'.ownBlock = v.ownBlock ∨ ∃ g, v'.ownBlock = some g ∧ w.heap.size ≤ g) := by
  obtain ⟨hb, h0, hq, hB⟩ := h
  obtain ⟨A, c, rfl⟩ := hq.shape
  have c0 : w.cell? ⟨b, 0, none⟩ = some (.slice A q.size c) := by rw [hb.cell, h0]
  have f0 := hb.frozen 0
  obtain ⟨i0, hi, hz0, hz1, hz2⟩ := info_parts info41
  have h63 : q.size + 1 ≤ maxLen := by unfold maxLen; omega
  have hby : (q.size + 1) * 40 ≤ 140737488355328 := by omega
  have hlt0 := hb.lt
  have hne := own_blk_ne hq hb (by decide)
  unfold itemAgg
  go_enter Try.func53, Try.ntmps53
  go_wp2_with fail
  go_region_law ((refine step_append_lies _ (by rfl) _ _ 63 (by rfl) B 41 i0 _ 5 40 Try.underlying63 hi hz0 hz1 hz2 rfl (by decide) (.slice A q.size c) q.size (qCells q) (by rfl) (by exact hq.alloc _) ⟨w.heap.size, 0, none⟩ 1 1 (itemCells x) (by rfl) rfl (by exact World.news_of_block (heap_alloc_new w _)) (itemCells_one x) (by decide) h63 hby (by simp; omega) (w.heap.size + 1) (by simp) ?_; intro g cap w1 hown hgrow hor hlt; have hb1 : Blk w1 b 65 cs := Blk.fr (w := (w.alloc _).drew) (hb.alloc _) (Fr.of_grown hgrow) hne; have c1 := hb1.cell 0; have f1 := hb1.frozen 0; rw [h0] at c1))
  all_goals
    go_end0
    exact ⟨rfl, push_close hb h0 hB hb1 hown (Fr.of_grown hgrow) hor⟩

theorem pop_any (B b : Nat) (cs : Array Value) (v : Value) (q : Array Item) (m : Nat) (w : World) (h : PQ w B b cs v q) (hs : q.size = m + 1) (hn : q.size ≤ 1000) :
    Calls Try.prog 52 #[.pointer (some ⟨b, 0, none⟩)] w fun e w' => e = .returned (.iface 41 (itemAgg q[m]!)) ∧ ∃ v', PQ w' B b (cs.setIfInBounds 0 v') v' q.pop ∧ Fr (fun j => j = b) w w' ∧ v'.ownBlock = v.ownBlock := by
  obtain ⟨hb, h0, hq, hB⟩ := h
  obtain ⟨g, c, rfl, _, hgl⟩ := hq.form (by omega)
  obtain ⟨h1, h2, h3, h4, h5⟩ := hq.cells (i := m) (by omega)
  have hpop := Lib.hid (hq.pop hs)
  have hcap : m + 1 ≤ c := by
    rcases hq.2 with ⟨hv, _⟩ | ⟨g', cap', cur, hv, _, _, hle, _⟩
    · cases hv
    · injection hv with _ _ hv; omega
  have HS := Lib.hid hs
  rw [hs] at h0
  have c0 := hb.cell 0
  rw [h0] at c0
  have f0 := hb.frozen 0
  have hlt := hb.lt
  have hsz : 0 < cs.size := by
    rcases Nat.eq_zero_or_pos cs.size with h | h
    · rw [Array.getElem?_eq_none (by omega)] at h0; cases h0
    · exact h
  unfold itemAgg
  generalize q[m]! = x at *
  have hm : m ≤ 1000 := by omega
  have HB := Lib.hid hb
  clear hs hb hq h0 hn
  go_enter Try.func52, Try.ntmps52
  go_wp2_with fail
  go_ret
  have hb := HB.out
  refine ⟨rfl, .slice (some ⟨g, 0, none⟩) m c, ⟨(hb.set_ 0 _).alloc _, by simp [hsz], ?_, hB⟩, Fr.alloc (Fr.setCell (Fr.refl _ w) ⟨b, 0, none⟩ (by intro _; rfl) _) _, rfl⟩
  have hp := hpop.out
  exact World.ownsRow.alloc (ownsRow_fr hp (Fr.setCell (S := fun k => k = b) (Fr.refl _ _) ⟨b, 0, none⟩ (fun _ => rfl) _) (fun k hk e => own_blk_ne hp hb (by decide) (by rw [hk, e]))) _

end Go.Proofs.Ytgcmdoinihehcaa
