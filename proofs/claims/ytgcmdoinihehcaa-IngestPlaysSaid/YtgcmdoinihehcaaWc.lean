/- A part of the proofs over a buffer of what comes late: contracts of the functions, each by a walk. -/
import Derived.Test.YtgcmdoinihehcaaWb
import Derived.WalkKit
import Derived.WalkLawsBesides
import Derived.WalkSpells
import Derived.Deep.QuietTactic
import Derived.BigRegion
import Derived.BigQuiet
import Derived.Lib.Hide
import Derived.Outline
import Derived.Deep.AppendLies
import Derived.Deep.RegionLaw
import Derived.Deep.RegionWith
import Derived.Deep.RegionHeld3
import Derived.Deep.LoopGhost
import Derived.Deep.DeepFit
import Derived.Laws.ResultCell
import Derived.Deep.MidRow
import Derived.StillTailTactics
namespace Go.Proofs.Ytgcmdoinihehcaa
set_option linter.unusedVariables false
open Go.RowKit Go
attribute [local go_sem] m_push m_pop m_len m_less m_swap run_assert

theorem PQ.fr {S : Nat → Prop} {w w' : World} {B b : Nat} {cs : Array Value} {v : Value} {q : Array Item} (h : PQ w B b cs v q) (hf : Fr S w w') (h1 : ¬ S b) (h2 : ∀ k, v.ownBlock = some k → ¬ S k) : PQ w' B b cs v q :=
  ⟨h.blk.fr hf h1, h.at0, h.row.fr hf h2, h.le⟩
theorem PQ.drewN {w : World} {B b : Nat} {cs : Array Value} {v : Value} {q : Array Item} (h : PQ w B b cs v q) (n : Nat) : PQ (w.drewN n) B b cs v q := ⟨h.blk, h.at0, h.row, h.le⟩
theorem PQ.ne_ {w : World} {B b : Nat} {cs : Array Value} {v : Value} {q : Array Item} (h : PQ w B b cs v q) : v.ownBlock ≠ some b := own_blk_ne h.row h.blk (by decide)
/-- The row of the same value turned: the block stays. -/
theorem PQ.turn {w w' : World} {B b : Nat} {cs : Array Value} {v : Value} {q q' : Array Item} (h : PQ w B b cs v q) (hq : QRow w' B v q') (hf : Fr (fun j => v.ownBlock = some j) w w') : PQ w' B b cs v q' :=
  ⟨h.blk.fr hf h.ne_, h.at0, hq, h.le⟩
theorem PQ.cell0 {w : World} {B b : Nat} {cs : Array Value} {v : Value} {q : Array Item} (h : PQ w B b cs v q) : w.cell? ⟨b, 0, none⟩ = some v := by rw [h.blk.cell, h.at0]

theorem up_any (B b : Nat) (cs : Array Value) (v : Value) (q : Array Item) (j : Nat) (w : World) (h : PQ w B b cs v q) (hj : j < q.size) (hn : q.size ≤ 1000) (hu : UpInv q j q.size) :
    Calls Try.prog 30 #[.iface 68 (.pointer (some ⟨b, 0, none⟩)), .int .i64 j] w fun e w' => e = .returned (.tuple #[]) ∧ ∃ q', PQ w' B b cs v q' ∧ IsHeap q' q'.size ∧ q'.toList.Perm q.toList ∧ Fr (fun j => v.ownBlock = some j) w w' := by
  go_enter Try.func30, Try.ntmps30
  go_wp2_with fail
  go_loopw [1] (fun jv wr => ∃ (k : Nat) (r : Array Item), jv = .int .i64 k ∧ k < r.size ∧ r.size ≤ 1000 ∧ UpInv r k r.size ∧ PQ wr B b cs v r ∧ r.toList.Perm q.toList ∧ Fr (fun j => v.ownBlock = some j) w wr) (fun jv _ => (intOf jv).toNat)
  case atStart => exact ⟨j, q, rfl, hj, hn, hu, h, List.Perm.refl _, Fr.refl _ _⟩
  case round =>
    obtain ⟨k, r, rfl, hk, hr, hi, hp, hperm, hf⟩ := hrel
    clear h hu hn hj
    have c0 := hp.cell0
    obtain ⟨g, c, rfl, -, -⟩ := hp.row.form (by omega)
    by_cases k0 : k = 0
    · subst k0
      go_wp2_with fail
      go_end0
      exact ⟨rfl, r, hp, hi.done0, hperm, hf⟩
    · have hpar := par_lt (k := k) (by omega)
      have e1 : ((k : Int) - 1) / 2 = (par k : Int) := by unfold par; omega
      have e2 : ((par k : Int) == (k : Int)) = false := beq_eq_false_iff_ne.2 (by omega)
      have k1 : 1 ≤ (k : Int) := by omega
      by_cases hl : ltB r[k]! r[par k]! = true
      · have hst := hi.step (Nat.le_refl _) hk (by omega) (le_of_not (ltB_true hl))
        have hsw := swp_perm r (par k) k (by omega) hk
        go_wp2_with (first | (go_at_call 50; refine (less_any B _ r k (par k) _ hp.row hk (by omega) (by omega) true hl).mono ?_; rintro e w' ⟨rfl, m, rfl⟩) | (go_at_call 51; refine (swap_any B _ r (par k) k _ (hp.row.drewN _) (by omega) hk (by omega)).mono ?_; rintro e w' ⟨rfl, hq', hf'⟩))
        go_roundw
        case rel => exact ⟨par k, swp r (par k) k, rfl, by rw [size_swp]; omega, by rw [size_swp]; exact hr, by rw [size_swp]; exact hst, hp.turn hq' ((Fr.drewN (Fr.refl _ _) _).trans' hf'), hsw.trans hperm, hf.trans' ((Fr.drewN (Fr.refl _ _) _).trans' hf')⟩
        case measure => simp [intOf]; omega
      · have hl' : ltB r[k]! r[par k]! = false := by simpa using hl
        clear hl
        have hd := hi.done (ltB_false hl')
        go_wp2_with (first | (go_at_call 50; refine (less_any B _ r k (par k) _ hp.row hk (by omega) (by omega) false hl').mono ?_; rintro e w' ⟨rfl, m, rfl⟩))
        go_end0
        exact ⟨rfl, r, hp.drewN _, hd, hperm, hf.drewN _⟩

theorem hpush_any (B b : Nat) (cs : Array Value) (v : Value) (q : Array Item) (x : Item) (w : World) (h : PQ w B b cs v q) (hn : q.size < 1000) (hq : IsHeap q q.size) :
    Calls Try.prog 25 #[.iface 68 (.pointer (some ⟨b, 0, none⟩)), .iface 41 (itemAgg x)] w fun e w' => e = .returned (.tuple #[]) ∧ ∃ v' q', PQ w' B b (cs.setIfInBounds 0 v') v' q' ∧ IsHeap q' q'.size ∧ q'.toList.Perm (x :: q.toList) ∧ Fr (fun j => j = b ∨ v.ownBlock = some j) w w' ∧ (v'.ownBlock = v.ownBlock ∨ ∃ g, v'.ownBlock = some g ∧ w.heap.size ≤ g) := by
  obtain ⟨r, hr⟩ : ∃ r, q.push x = r := ⟨_, rfl⟩
  have hsz : r.size = q.size + 1 := by rw [← hr]; exact Array.size_push _
  have hu : UpInv r q.size r.size := by rw [hsz, ← hr]; exact UpInv.push x hq
  have hpe : r.toList.Perm (x :: q.toList) := by
    rw [← hr, Array.toList_push]
    exact (List.perm_append_comm (l₁ := q.toList) (l₂ := [x]))
  have H1 := Lib.hid hr
  clear hr hq
  go_enter Try.func25, Try.ntmps25
  go_wp2_with fail
  refine (push_any B b cs v q x w h (by omega)).mono ?_
  rw [H1.out]
  rintro e w1 ⟨rfl, v1, hp, hf, ho⟩
  have c0 := hp.cell0
  obtain ⟨A, c, hv⟩ := hp.row.shape
  have HV := Lib.hid hv
  rw [hv] at c0
  clear hv
  have e1 : (r.size : Int) - 1 = (q.size : Int) := by omega
  have e2 : (1 : Int) ≤ (r.size : Int) := by omega
  have e3 : (r.size : Int) ≤ 1000 := by omega
  have HS := Lib.hid hsz
  clear hsz
  go_wp2_with (first | (go_at_call 49; refine (len_any _ _ _ _).mono ?_; rintro e w' ⟨rfl, rfl⟩))
  refine (up_any B b _ v1 r q.size _ hp (by have := HS.out; omega) (by have := HS.out; omega) hu).mono ?_
  rintro e w2 ⟨rfl, q', hp', hh, hperm, hf'⟩
  go_wp2_with fail
  go_end0
  refine ⟨rfl, v1, q', hp', hh, hperm.trans hpe, hf.trans hf' ?_, ho⟩
  intro i hi hvi
  rcases ho with ho | ⟨g, ho, hg⟩
  · exact .inr (by rw [← ho]; exact hvi)
  · rw [ho] at hvi
    injection hvi with hvi
    omega

end Go.Proofs.Ytgcmdoinihehcaa
