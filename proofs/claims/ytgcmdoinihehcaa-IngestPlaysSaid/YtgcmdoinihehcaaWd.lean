/- A part of the proofs over a buffer of what comes late: contracts of the functions, each by a walk. -/
import Derived.Test.YtgcmdoinihehcaaWc
import Derived.WalkKit
import Derived.WalkLawsBesides
import Derived.WalkSpells
import Derived.Deep.QuietTactic
import Derived.BigRegion
import Derived.BigQuiet
import Derived.Lib.Hide
import Derived.Outline
import Derived.Deep.AppendLies
import Derived.Deep.RegionLaw
import Derived.Deep.RegionWith
import Derived.Deep.RegionHeld3
import Derived.Deep.LoopGhost
import Derived.Deep.DeepFit
import Derived.Laws.ResultCell
import Derived.Deep.MidRow
import Derived.StillTailTactics
namespace Go.Proofs.Ytgcmdoinihehcaa
set_option linter.unusedVariables false
open Go.RowKit Go
attribute [local go_sem] m_push m_pop m_len m_less m_swap run_assert

theorem down_close {B b : Nat} {cs : Array Value} {v : Value} {q r : Array Item} {k j n : Nat} {w wr w2 : World} (hp : PQ wr B b cs v r) (hn : n ≤ r.size) (hi : DownInv r k n) (hj : j < n) (hc : par j = k) (j0 : 0 < j)
    (hl : ltB r[j]! r[k]! = true) (hmin : ∀ i, 0 < i → i < n → par i = k → le r[j]! r[i]!) (hperm : r.toList.Perm q.toList) (hrest : ∀ i, n ≤ i → r[i]! = q[i]!) (hf : Fr (fun j => v.ownBlock = some j) w wr)
    (hq' : QRow w2 B v (swp r k j)) (hf' : Fr (fun j => v.ownBlock = some j) wr w2) :
    PQ w2 B b cs v (swp r k j) ∧ DownInv (swp r k j) j n ∧ (swp r k j).toList.Perm q.toList ∧ (∀ i, n ≤ i → (swp r k j)[i]! = q[i]!) ∧ Fr (fun j => v.ownBlock = some j) w w2 := by
  have hpl := par_lt j0
  refine ⟨hp.turn hq' hf', hi.step hn hj hc j0 (le_of_not (ltB_true hl)) hmin, (swp_perm r k j (by omega) (by omega)).trans hperm, fun i hin => ?_, hf.trans' hf'⟩
  rw [swp_get r k j i (by omega) (by omega), if_neg (by omega), if_neg (by omega)]
  exact hrest i hin

set_option maxHeartbeats 2000000 in
theorem down_any (B b : Nat) (cs : Array Value) (v : Value) (q : Array Item) (n : Nat) (w : World) (h : PQ w B b cs v q) (hn : n ≤ q.size) (hq : q.size ≤ 1000) (hd : DownInv q 0 n) :
    Calls Try.prog 32 #[.iface 68 (.pointer (some ⟨b, 0, none⟩)), .int .i64 0, .int .i64 n] w fun e w' => (∃ bb, e = .returned (.bool bb)) ∧ ∃ q', PQ w' B b cs v q' ∧ IsHeap q' n ∧ q'.toList.Perm q.toList ∧ (∀ i, n ≤ i → q'[i]! = q[i]!) ∧ Fr (fun j => v.ownBlock = some j) w w' := by
  go_enter Try.func32, Try.ntmps32
  go_wp2_with fail
  go_loopw [7] (fun iv wr => ∃ (k : Nat) (r : Array Item), iv = .int .i64 k ∧ r.size = q.size ∧ k ≤ n ∧ DownInv r k n ∧ PQ wr B b cs v r ∧ r.toList.Perm q.toList ∧ (∀ i, n ≤ i → r[i]! = q[i]!) ∧ Fr (fun j => v.ownBlock = some j) w wr) (fun iv _ => n - (intOf iv).toNat)
  case atStart => exact ⟨0, q, rfl, rfl, by omega, hd, h, List.Perm.refl _, fun _ _ => rfl, Fr.refl _ _⟩
  case round =>
    obtain ⟨k, r, rfl, hr, hkn, hi, hp, hperm, hrest, hf⟩ := hrel
    have hrn : n ≤ r.size := by omega
    have hr1 : r.size ≤ 1000 := by omega
    have HR := Lib.hid hr
    have HRest := Lib.hid hrest
    clear h hd hr hrest
    have c0 := hp.cell0
    obtain ⟨j1, hj1⟩ : ∃ j1 : Nat, j1 = 2 * k + 1 := ⟨_, rfl⟩
    obtain ⟨j2, hj2⟩ : ∃ j2 : Nat, j2 = 2 * k + 2 := ⟨_, rfl⟩
    have p1 : par j1 = k := by rw [hj1]; exact par_l k
    have p2 : par j2 = k := by rw [hj2]; exact par_r k
    have e1 : 2 * (k : Int) + 1 = (j1 : Int) := by omega
    have e2 : (j1 : Int) + 1 = (j2 : Int) := by omega
    have HJ1 := Lib.hid hj1
    have HJ2 := Lib.hid hj2
    have HP1 := Lib.hid p1
    have HP2 := Lib.hid p2
    clear hj1 hj2 p1 p2
    by_cases c1 : n ≤ j1
    · have hh := hi.leaf (by have := HJ1.out; omega)
      have c1' : (n : Int) ≤ (j1 : Int) := by omega
      go_wp2_with fail
      go_ret
      exact ⟨⟨_, rfl⟩, r, hp, hh, hperm, HRest.out, hf⟩
    · have c1' : (j1 : Int) < (n : Int) := by omega
      have hk1 : k < r.size := by have := HJ1.out; omega
      have hj1s : j1 < r.size := by omega
      by_cases c2 : j2 < n
      · have c2' : (j2 : Int) < (n : Int) := by omega
        have hj2s : j2 < r.size := by omega
        by_cases l2 : ltB r[j2]! r[j1]! = true
        · have l2h := le_of_not (ltB_true l2)
          have hmin : ∀ i, 0 < i → i < n → par i = k → le r[j2]! r[i]! := fun i i0 hin hpi => by
            rcases par_cases i0 hpi with e | e
            · rw [e, ← HJ1.out]; exact l2h
            · rw [e, ← HJ2.out]; exact le_refl _
          by_cases l3 : ltB r[j2]! r[k]! = true
          · have tok := trivial
            go_wp2_with fail
            refine (less_any B _ r j2 j1 _ hp.row hj2s hj1s (by omega) true l2).mono ?_
            rintro e w' ⟨rfl, mj2, rfl⟩
            go_wp2_with fail
            refine (less_any B _ r j2 k _ (hp.row.drewN _) hj2s hk1 (by omega) true l3).mono ?_
            rintro e w' ⟨rfl, mj2, rfl⟩
            go_wp2_with fail
            refine (swap_any B _ r k j2 _ (hp.row.drewN _) hk1 hj2s (by omega)).mono ?_
            rintro e w' ⟨rfl, hq', hf'⟩
            go_wp2_with fail
            go_roundw
            case rel =>
              have C := down_close hp hrn hi (by omega) HP2.out (by have := HJ1.out; have := HJ2.out; omega) l3 hmin hperm HRest.out hf hq' ((Fr.drewN (Fr.refl _ _) _).trans' hf')
              exact ⟨j2, swp r k j2, by go_num, by rw [size_swp]; exact HR.out, by omega, C.2.1, C.1, C.2.2.1, C.2.2.2.1, C.2.2.2.2⟩
            case measure => have := HJ1.out; have := HJ2.out; simp [intOf]; omega
          · have l3' : ltB r[j2]! r[k]! = false := by simpa using l3
            clear l3
            have hh : IsHeap r n := hi.done (fun h => le_trans (ltB_false l3') (hmin _ (by omega) h (par_l k))) (fun h => le_trans (ltB_false l3') (hmin _ (by omega) h (par_r k)))
            go_wp2_with fail
            refine (less_any B _ r j2 j1 _ hp.row hj2s hj1s (by omega) true l2).mono ?_
            rintro e w' ⟨rfl, mj2, rfl⟩
            go_wp2_with fail
            refine (less_any B _ r j2 k _ (hp.row.drewN _) hj2s hk1 (by omega) false l3').mono ?_
            rintro e w' ⟨rfl, mj2, rfl⟩
            go_wp2_with fail
            go_ret
            exact ⟨⟨_, rfl⟩, r, hp.drewN _, hh, hperm, HRest.out, hf.drewN _⟩
        · have l2' : ltB r[j2]! r[j1]! = false := by simpa using l2
          clear l2
          have l2h := ltB_false l2'
          have hmin : ∀ i, 0 < i → i < n → par i = k → le r[j1]! r[i]! := fun i i0 hin hpi => by
            rcases par_cases i0 hpi with e | e
            · rw [e, ← HJ1.out]; exact le_refl _
            · rw [e, ← HJ2.out]; exact l2h
          by_cases l3 : ltB r[j1]! r[k]! = true
          · have tok := trivial
            go_wp2_with fail
            refine (less_any B _ r j2 j1 _ hp.row hj2s hj1s (by omega) false l2').mono ?_
            rintro e w' ⟨rfl, mj2, rfl⟩
            go_wp2_with fail
            refine (less_any B _ r j1 k _ (hp.row.drewN _) hj1s hk1 (by omega) true l3).mono ?_
            rintro e w' ⟨rfl, mj1, rfl⟩
            go_wp2_with fail
            refine (swap_any B _ r k j1 _ (hp.row.drewN _) hk1 hj1s (by omega)).mono ?_
            rintro e w' ⟨rfl, hq', hf'⟩
            go_wp2_with fail
            go_roundw
            case rel =>
              have C := down_close hp hrn hi (by omega) HP1.out (by have := HJ1.out; have := HJ2.out; omega) l3 hmin hperm HRest.out hf hq' ((Fr.drewN (Fr.refl _ _) _).trans' hf')
              exact ⟨j1, swp r k j1, by go_num, by rw [size_swp]; exact HR.out, by omega, C.2.1, C.1, C.2.2.1, C.2.2.2.1, C.2.2.2.2⟩
            case measure => have := HJ1.out; have := HJ2.out; simp [intOf]; omega
          · have l3' : ltB r[j1]! r[k]! = false := by simpa using l3
            clear l3
            have hh : IsHeap r n := hi.done (fun h => le_trans (ltB_false l3') (hmin _ (by omega) h (par_l k))) (fun h => le_trans (ltB_false l3') (hmin _ (by omega) h (par_r k)))
            go_wp2_with fail
            refine (less_any B _ r j2 j1 _ hp.row hj2s hj1s (by omega) false l2').mono ?_
            rintro e w' ⟨rfl, mj2, rfl⟩
            go_wp2_with fail
            refine (less_any B _ r j1 k _ (hp.row.drewN _) hj1s hk1 (by omega) false l3').mono ?_
            rintro e w' ⟨rfl, mj1, rfl⟩
            go_wp2_with fail
            go_ret
            exact ⟨⟨_, rfl⟩, r, hp.drewN _, hh, hperm, HRest.out, hf.drewN _⟩
      · have c2' : (n : Int) ≤ (j2 : Int) := by omega
        have c2d : decide ((j2 : Int) < (n : Int)) = false := by simpa using c2'
        have hmin : ∀ i, 0 < i → i < n → par i = k → le r[j1]! r[i]! := fun i i0 hin hpi => by
          rcases par_cases i0 hpi with e | e
          · rw [e, ← HJ1.out]; exact le_refl _
          · rw [HJ2.out] at c2; omega
        by_cases l3 : ltB r[j1]! r[k]! = true
        · have tok := trivial
          go_wp2_with fail
          refine (less_any B _ r j1 k _ hp.row hj1s hk1 (by omega) true l3).mono ?_
          rintro e w' ⟨rfl, mj1, rfl⟩
          go_wp2_with fail
          refine (swap_any B _ r k j1 _ (hp.row.drewN _) hk1 hj1s (by omega)).mono ?_
          rintro e w' ⟨rfl, hq', hf'⟩
          go_wp2_with fail
          go_roundw
          case rel =>
            have C := down_close hp hrn hi (by omega) HP1.out (by have := HJ1.out; have := HJ2.out; omega) l3 hmin hperm HRest.out hf hq' ((Fr.drewN (Fr.refl _ _) _).trans' hf')
            exact ⟨j1, swp r k j1, by go_num, by rw [size_swp]; exact HR.out, by omega, C.2.1, C.1, C.2.2.1, C.2.2.2.1, C.2.2.2.2⟩
          case measure => have := HJ1.out; have := HJ2.out; simp [intOf]; omega
        · have l3' : ltB r[j1]! r[k]! = false := by simpa using l3
          clear l3
          have hh : IsHeap r n := hi.done (fun h => le_trans (ltB_false l3') (hmin _ (by omega) h (par_l k))) (fun h => le_trans (ltB_false l3') (hmin _ (by omega) h (par_r k)))
          go_wp2_with fail
          refine (less_any B _ r j1 k _ hp.row hj1s hk1 (by omega) false l3').mono ?_
          rintro e w' ⟨rfl, mj1, rfl⟩
          go_wp2_with fail
          go_ret
          exact ⟨⟨_, rfl⟩, r, hp.drewN _, hh, hperm, HRest.out, hf.drewN _⟩

end Go.Proofs.Ytgcmdoinihehcaa
