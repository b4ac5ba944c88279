/- A part of the proofs over a buffer of what comes late: contracts of the functions, each by a walk. -/
import Derived.Test.YtgcmdoinihehcaaWj
import Derived.WalkKit
import Derived.WalkLawsBesides
import Derived.WalkSpells
import Derived.Deep.QuietTactic
import Derived.BigRegion
import Derived.BigQuiet
import Derived.Lib.Hide
import Derived.Outline
import Derived.Deep.AppendLies
import Derived.Deep.RegionLaw
import Derived.Deep.RegionWith
import Derived.Deep.RegionHeld3
import Derived.Deep.LoopGhost
import Derived.Deep.DeepFit
import Derived.Laws.ResultCell
import Derived.Deep.MidRow
import Derived.StillTailTactics
namespace Go.Proofs.Ytgcmdoinihehcaa
set_option linter.unusedVariables false
open Go.RowKit Go

theorem Fr.false_of {S : Nat → Prop} {w w' : World} (h : Fr S w w') (hs : ∀ k, k < w.heap.size → ¬ S k) : Fr (fun _ => False) w w' := h.mono fun k hk e => hs k hk e

theorem aw_code1 : pushCode (newSt 3 5) 0 10 = 0 := by simp [pushCode, newSt, inst]
theorem aw_st1 : pushSt (newSt 3 5) 0 10 = ⟨3, 5, 7, true, 0, false, 1, 0, false⟩ := by unfold pushSt; rw [aw_code1]; simp [seeSt, newSt]
theorem aw_code2 : pushCode ⟨3, 5, 7, true, 0, false, 1, 0, false⟩ 1 7 = 0 := by simp [pushCode, inst]
theorem aw_st2 : pushSt ⟨3, 5, 7, true, 0, false, 1, 0, false⟩ 1 7 = ⟨3, 5, 7, true, 0, false, 2, 0, false⟩ := by simp [pushSt, aw_code2, seeSt]
theorem aw_code3 (n : Nat) : pushCode ⟨3, 5, 7, true, 0, false, 2, 0, false⟩ n 6 = 7 := by simp [pushCode, inst]
theorem aw_st3 (n : Nat) : pushSt ⟨3, 5, 7, true, 0, false, 2, 0, false⟩ n 6 = ⟨3, 5, 7, true, 0, false, 2, 1, false⟩ := by simp [pushSt, aw_code3]

/-- The one block of a buffer, and its row, lie behind 'n'. -/
theorem Pushed.frame {w w' : World} {B b n : Nat} {v v' : Value} {s : St} {q q' : Array Item} {t k0 k1 k2 : Int} (h : Pushed w w' B b v s q t k0 k1 k2 v' q') (hb : n ≤ b) (hv : ∀ k, v.ownBlock = some k → n ≤ k) (hn : n ≤ w.heap.size) :
    Fr (fun k => n ≤ k) w w' ∧ ∀ k, v'.ownBlock = some k → n ≤ k := by
  refine ⟨h.fr.mono fun k _ e => ?_, fun k hk => ?_⟩
  · rcases e with e | e
    · omega
    · exact hv k e
  · rcases h.own with ho | ⟨g, hg, hge⟩
    · exact hv k (by rw [← ho]; exact hk)
    · rw [hg] at hk
      injection hk with hk
      omega

set_option maxHeartbeats 1000000 in
theorem awake_any (w : World) : Calls Try.prog 9 #[] w fun e w' => e = .returned (.bool true) ∧ Fr (fun _ => False) w w' := by
  have hnew := Lib.hid (newBuf w w.heap.size (Nat.le_refl _) 3 5)
  go_enter Try.func9, Try.ntmps9
  go_wp2_with fail
  refine (new_ok 3 5 w (by omega) (by omega) (by omega) (by omega)).mono ?_
  rintro e w1 ⟨rfl, rfl⟩
  have hb0 := hnew.out
  have hf0 : Fr (fun k => w.heap.size ≤ k) w (w.alloc (.cells (bufCells (.slice none 0 0) (newSt 3 5)) 65)) := (Fr.refl _ w).alloc _
  have hs0 : w.heap.size ≤ (w.alloc (.cells (bufCells (.slice none 0 0) (newSt 3 5)) 65)).heap.size := by simp
  generalize (w.alloc (.cells (bufCells (.slice none 0 0) (newSt 3 5)) 65)) = w1 at *
  go_wp2_with fail
  refine (pushB w.heap.size w.heap.size (.slice none 0 0) (newSt 3 5) #[] 10 0 0 0 w1 hb0 ⟨by decide, by decide, by decide, by decide, by decide, by decide, by decide⟩).mono ?_
  rintro e w2 ⟨v2, q2, rfl, hp2⟩
  have hF2 := hp2.frame (n := w.heap.size) (Nat.le_refl _) (by simp [Value.ownBlock]) hs0
  have hb2 := hp2.buf
  have hw2 := hp2.wait
  rw [show (#[] : Array Item).size = 0 from rfl] at hb2 hw2
  rw [aw_code1, if_pos rfl] at hw2
  rw [aw_st1] at hb2
  rw [show (#[] : Array Item).size = 0 from rfl, aw_code1]
  have hq2 : q2.size = 1 := by have := hw2.length_eq; simpa using this
  have H2 := Lib.hid hq2
  have HF2 := Lib.hid hF2.2
  have hs2 := hF2.1.size
  clear hq2 hw2 hp2
  go_wp2_with fail
  refine (pushB w.heap.size w.heap.size v2 _ q2 7 0 0 0 w2 hb2 ⟨by decide, by decide, by decide, by decide, by decide, by decide, by decide⟩).mono ?_
  rintro e w3 ⟨v3, q3, rfl, hp3⟩
  have hF3 := hp3.frame (n := w.heap.size) (Nat.le_refl _) HF2.out (by omega)
  have hb3 := hp3.buf
  have hw3 := hp3.wait
  rw [H2.out] at hb3 hw3
  rw [aw_code2, if_pos rfl] at hw3
  rw [aw_st2] at hb3
  rw [H2.out, aw_code2]
  have hq3 : q3.size = 2 := by have := hw3.length_eq; have := H2.out; simp_all
  have H3 := Lib.hid hq3
  have HF3 := Lib.hid hF3.2
  have hs3 := hF3.1.size
  clear hq3 hw3 hp3
  go_wp2_with fail
  refine (pushB w.heap.size w.heap.size v3 _ q3 6 0 0 0 w3 hb3 ⟨by decide, by decide, by decide, by decide, by decide, by decide, by decide⟩).mono ?_
  rintro e w4 ⟨v4, q4, rfl, hp4⟩
  have hF4 := hp4.frame (n := w.heap.size) (Nat.le_refl _) HF3.out (by omega)
  have hb4 := hp4.buf
  have hw4 := hp4.wait
  rw [aw_code3, if_neg (by decide)] at hw4
  rw [aw_st3] at hb4
  rw [aw_code3]
  subst hw4
  clear hp4
  go_wp2_with fail
  refine (blen_any _ _ _ _ _ _ hb4).mono ?_
  rintro e w5 ⟨rfl, rfl⟩
  rw [H3.out]
  go_wp2_with fail
  go_ret
  exact ⟨rfl, (((hf0.trans' hF2.1).trans' hF3.1).trans' hF4.1).mono fun k hk e => by omega⟩

end Go.Proofs.Ytgcmdoinihehcaa
