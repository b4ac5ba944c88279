/- A part of the proofs over a buffer of what comes late: contracts of the functions, each by a walk. -/
import Derived.Test.YtgcmdoinihehcaaWd
import Derived.WalkKit
import Derived.WalkLawsBesides
import Derived.WalkSpells
import Derived.Deep.QuietTactic
import Derived.BigRegion
import Derived.BigQuiet
import Derived.Lib.Hide
import Derived.Outline
import Derived.Deep.AppendLies
import Derived.Deep.RegionLaw
import Derived.Deep.RegionWith
import Derived.Deep.RegionHeld3
import Derived.Deep.LoopGhost
import Derived.Deep.DeepFit
import Derived.Laws.ResultCell
import Derived.Deep.MidRow
import Derived.StillTailTactics
namespace Go.Proofs.Ytgcmdoinihehcaa
set_option linter.unusedVariables false
open Go.RowKit Go
attribute [local go_sem] m_push m_pop m_len m_less m_swap run_assert

theorem mem_get {q : Array Item} {y : Item} (h : y ∈ q.toList) : ∃ k, k < q.size ∧ q[k]! = y := by
  obtain ⟨k, hk, rfl⟩ := List.mem_iff_getElem.1 h
  have hk' : k < q.size := by simpa using hk
  exact ⟨k, hk', by rw [getElem!_pos q k hk']; simp⟩

theorem hpop_any (B b : Nat) (cs : Array Value) (v : Value) (q : Array Item) (m : Nat) (w : World) (h : PQ w B b cs v q) (hs : q.size = m + 1) (hn : q.size ≤ 1000) (hh : IsHeap q q.size) :
    Calls Try.prog 31 #[.iface 68 (.pointer (some ⟨b, 0, none⟩))] w fun e w' => ∃ v' q', e = .returned (.iface 41 (itemAgg q[0]!)) ∧ PQ w' B b (cs.setIfInBounds 0 v') v' q' ∧ IsHeap q' q'.size ∧ (q[0]! :: q'.toList).Perm q.toList ∧ Fr (fun j => j = b ∨ v.ownBlock = some j) w w' ∧ v'.ownBlock = v.ownBlock := by
  have c0 := h.cell0
  obtain ⟨g, c, hv, -, -⟩ := h.row.form (by omega)
  have hsw0 := swap_any B v q 0 m w h.row (by omega) (by omega) (by omega)
  rw [show ((0 : Nat) : Int) = 0 from rfl] at hsw0
  have hdi : DownInv (swp q 0 m) 0 m := (hs ▸ hh : IsHeap q (m + 1)).swap0 hs
  have hlast := swap0_last hs
  have hpm := swp_perm q 0 m (by omega) (by omega)
  have hsz : (swp q 0 m).size = m + 1 := by rw [size_swp, hs]
  have HX : ∀ X : Item, X = q[0]! → X = q[0]! := fun _ h => h
  generalize q[0]! = x at *
  obtain ⟨r, hr⟩ : ∃ r, swp q 0 m = r := ⟨_, rfl⟩
  rw [hr] at hsw0 hdi hlast hpm hsz
  have hm : m ≤ 999 := by omega
  have e1 : ((m : Int) + 1) - 1 = (m : Int) := by omega
  rw [hv, hs] at c0
  have H0 := Lib.hid hsw0
  have H1 := Lib.hid hs
  have H2 := Lib.hid hv
  have H3 := Lib.hid hlast
  have H4 := Lib.hid hsz
  clear hsw0 hs hv hlast hr hsz hh hn HX e1
  go_enter Try.func31, Try.ntmps31
  go_wp2_with (first | (go_at_call 49; refine (len_any _ _ _ _).mono ?_; rintro e w' ⟨rfl, rfl⟩))
  rw [← H1.out, ← H2.out]
  refine H0.out.mono ?_
  rintro e w1 ⟨rfl, hq1, hf1⟩
  have hp1 := h.turn hq1 hf1
  have c1 := hp1.cell0
  go_wp2_with fail
  refine (down_any B b cs v r m w1 hp1 (by have := H4.out; omega) (by have := H4.out; omega) hdi).mono ?_
  rintro e w2 ⟨⟨bb, rfl⟩, q2, hp2, hh2, hpm2, hre2, hf2⟩
  have c2 := hp2.cell0
  have hs2 : q2.size = m + 1 := by
    have := hpm2.length_eq
    simp only [Array.length_toList] at this
    rw [this]; exact H4.out
  have H5 := Lib.hid hs2
  have hx2 := hre2 m (Nat.le_refl _)
  rw [H3.out] at hx2
  have H6 := Lib.hid hx2
  clear hs2 hx2
  have hpl : (x :: q2.pop.toList).Perm q2.toList := by
    have e : q2 = q2.pop.push x := by
      have h0 : q2.size ≠ 0 := by have := H5.out; omega
      rw [← H6.out, getElem!_pos q2 m (by have := H5.out; omega)]
      apply Array.ext_getElem?
      intro i
      have hs5 := H5.out
      simp only [Array.getElem?_push, Array.size_pop, hs5, Nat.add_sub_cancel, Array.getElem?_pop]
      by_cases hi : i = m
      · subst hi; simp [hs5]
      · rw [if_neg hi]
        by_cases hlt : i < m
        · simp [hlt]
        · rw [if_neg hlt, Array.getElem?_eq_none (by omega)]
    have e2 : q2.toList = q2.pop.toList ++ [x] := by
      conv => lhs; rw [e]
      rw [Array.toList_push]
    rw [e2]
    exact (List.perm_append_comm (l₁ := [x]) (l₂ := q2.pop.toList))
  have hhp : IsHeap q2.pop q2.pop.size := hh2.pop H5.out
  go_wp2_with fail
  refine (pop_any B b cs v q2 m w2 hp2 H5.out (by have := H5.out; omega)).mono ?_
  rw [H6.out]
  rintro e w3 ⟨rfl, v3, hp3, hf3, ho3⟩
  go_wp2_with fail
  go_ret
  refine ⟨v3, q2.pop, rfl, hp3, hhp, hpl.trans (hpm2.trans hpm), ?_, ho3⟩
  have f12 := hf1.trans' hf2
  exact (f12.mono (T := fun j => j = b ∨ v.ownBlock = some j) fun _ _ h => .inr h).trans hf3 fun _ _ h => .inl h

end Go.Proofs.Ytgcmdoinihehcaa
