/- A part of the proofs over a buffer of what comes late: contracts of the functions, each by a walk. -/
import Derived.Test.YtgcmdoinihehcaaWi
import Derived.WalkKit
import Derived.WalkLawsBesides
import Derived.WalkSpells
import Derived.Deep.QuietTactic
import Derived.BigRegion
import Derived.BigQuiet
import Derived.Lib.Hide
import Derived.Outline
import Derived.Deep.AppendLies
import Derived.Deep.RegionLaw
import Derived.Deep.RegionWith
import Derived.Deep.RegionHeld3
import Derived.Deep.LoopGhost
import Derived.Deep.DeepFit
import Derived.Laws.ResultCell
import Derived.Deep.MidRow
import Derived.StillTailTactics
namespace Go.Proofs.Ytgcmdoinihehcaa
set_option linter.unusedVariables false
open Go.RowKit Go

theorem late_any (b : Nat) (v : Value) (s : St) (w : World) (h : Blk w b 65 (bufCells v s)) :
    Calls Try.prog 13 #[.pointer (some ⟨b, 0, none⟩)] w fun e w' => e = .returned (.int .i64 s.late) ∧ w = w' := by
  have c8 : w.cell? ⟨b, 8, none⟩ = some (.int .i64 s.late) := h.cell 8
  go_enter Try.func13, Try.ntmps13
  go_wp2
  go_ret
  exact ⟨rfl, rfl⟩

theorem closed_any (b : Nat) (v : Value) (s : St) (w : World) (h : Blk w b 65 (bufCells v s)) :
    Calls Try.prog 18 #[.pointer (some ⟨b, 0, none⟩)] w fun e w' => e = .returned (.bool s.closed) ∧ w = w' := by
  have c9 : w.cell? ⟨b, 9, none⟩ = some (.bool s.closed) := h.cell 9
  go_enter Try.func18, Try.ntmps18
  go_wp2
  go_ret
  exact ⟨rfl, rfl⟩

theorem blen_any (B b : Nat) (v : Value) (s : St) (q : Array Item) (w : World) (h : IsBuf w B b v s q) :
    Calls Try.prog 14 #[.pointer (some ⟨b, 0, none⟩)] w fun e w' => e = .returned (.int .i64 q.size) ∧ w = w' := by
  have c0 : w.cell? ⟨b, 0, none⟩ = some v := h.pq.blk.cell 0
  obtain ⟨A, c, hv⟩ := h.pq.row.shape
  rw [hv] at c0
  clear h hv
  go_enter Try.func14, Try.ntmps14
  go_wp2
  go_ret
  exact ⟨rfl, rfl⟩

theorem mark_any (b : Nat) (v : Value) (s : St) (w : World) (h : Blk w b 65 (bufCells v s)) :
    Calls Try.prog 12 #[.pointer (some ⟨b, 0, none⟩)] w fun e w' => e = .returned (.tuple #[.int .i64 s.mark, .bool s.marked]) ∧ ∃ n, w' = w.drewN n := by
  have c3 : w.cell? ⟨b, 3, none⟩ = some (.int .i64 s.mark) := h.cell 3
  have c4 : w.cell? ⟨b, 4, none⟩ = some (.bool s.marked) := h.cell 4
  clear h
  go_enter Try.func12, Try.ntmps12
  go_wp2
  go_quiet (fail)
  go_wp2
  go_ret2
  exact ⟨rfl, _, rfl⟩

def newSt (x y : Int) : St := ⟨x, y, 0, false, 0, false, 0, 0, false⟩

theorem new_ok (x y : Int) (w : World) (h1 : 0 ≤ x) (h2 : x ≤ 1152921504606846976) (h3 : 1 ≤ y) (h4 : y ≤ 1000) :
    Calls Try.prog 10 #[.int .i64 x, .int .i64 y] w fun e w' => e = .returned (.tuple #[.pointer (some ⟨w.heap.size, 0, none⟩), .int .i64 0]) ∧ (w.alloc (.cells (bufCells (.slice none 0 0) (newSt x y)) 65)) = w' := by
  go_enter Try.func10, Try.ntmps10
  go_wp2
  go_ret2
  exact ⟨rfl, rfl⟩

theorem new_bad (x y : Int) (w : World) (h : x < 0 ∨ 1152921504606846976 < x ∨ y < 1 ∨ 1000 < y) :
    Calls Try.prog 10 #[.int .i64 x, .int .i64 y] w fun e w' => e = .returned (.tuple #[.pointer none, .int .i64 2]) ∧ w = w' := by
  have hb : (decide (x < 0) || decide (1152921504606846976 < x) || decide (y < 1) || decide (1000 < y)) = true := by
    simp only [Bool.or_eq_true, decide_eq_true_eq]; omega
  go_enter Try.func10, Try.ntmps10
  go_wp2
  all_goals (go_ret2; exact ⟨rfl, rfl⟩)

theorem newBuf (w : World) (B : Nat) (hB : B ≤ w.heap.size) (x y : Int) : IsBuf (w.alloc (.cells (bufCells (.slice none 0 0) (newSt x y)) 65)) B w.heap.size (.slice none 0 0) (newSt x y) #[] :=
  ⟨⟨Blk.new _ _ _, rfl, World.ownsRow_nil _ _ _ _, hB⟩, isHeap_empty, by simp⟩

def tickCode (s : St) (t : Int) : Int := if s.closed = true then 14 else if inst t = false then 2 else if s.ticked = true ∧ t < s.clock then 8 else 0
def tickSt (s : St) (t : Int) : St := if tickCode s t = 0 then seeSt { s with clock := t, ticked := true } t else s

theorem tick_any (B b : Nat) (v : Value) (s : St) (q : Array Item) (t : Int) (w : World) (h : IsBuf w B b v s q) (hf : Fit s) :
    Calls Try.prog 17 #[.pointer (some ⟨b, 0, none⟩), .int .i64 t] w fun e w' => e = .returned (.int .i64 (tickCode s t)) ∧ IsBuf w' B b v (tickSt s t) q ∧ Fr (fun j => j = b) w w' := by
  have c9 : w.cell? ⟨b, 9, none⟩ = some (.bool s.closed) := h.pq.blk.cell 9
  have c5 : w.cell? ⟨b, 5, none⟩ = some (.int .i64 s.clock) := h.pq.blk.cell 5
  have c6 : w.cell? ⟨b, 6, none⟩ = some (.bool s.ticked) := h.pq.blk.cell 6
  have f5 := h.pq.blk.frozen 5
  have f6 := h.pq.blk.frozen 6
  have hin := Lib.hid (fun w => instant_any t w)
  have hsame := Lib.hid (fun hc => (show tickCode s t ≠ 0 → IsBuf w B b v (tickSt s t) q by intro hc; rw [tickSt, if_neg hc]; exact h) hc)
  by_cases hc : s.closed = true
  · have e1 : tickCode s t = 14 := by simp [tickCode, hc]
    have E1 := Lib.hid e1
    rw [e1]
    rw [hc] at c9
    clear e1 hc h
    go_enter Try.func17, Try.ntmps17
    go_wp2_with fail
    go_ret
    exact ⟨rfl, hsame.out (by rw [E1.out]; decide), Fr.refl _ _⟩
  · have hc' : s.closed = false := by simpa using hc
    by_cases hi : inst t = true
    · have hti : -1152921504606846976 ≤ t ∧ t ≤ 1152921504606846976 := by simpa [inst] using hi
      obtain ⟨ht1, ht2⟩ := hti
      by_cases hm : s.ticked = true ∧ t < s.clock
      · have e1 : tickCode s t = 8 := by simp [tickCode, hc', hi, hm]
        have E1 := Lib.hid e1
        rw [e1]
        obtain ⟨hm1, hm2⟩ := hm
        rw [hc'] at c9
        rw [hm1] at c6
        clear e1 hc hc' h hm1
        go_enter Try.func17, Try.ntmps17
        go_wp2_with fail
        refine (hin.out _).mono ?_
        rw [hi]
        rintro e w' ⟨rfl, rfl⟩
        go_wp2_with fail
        go_ret
        exact ⟨rfl, hsame.out (by rw [E1.out]; decide), Fr.refl _ _⟩
      · have e1 : tickCode s t = 0 := by
          unfold tickCode
          rw [if_neg hc, if_neg (by rw [hi]; decide), if_neg hm]
        have e2 : tickSt s t = seeSt { s with clock := t, ticked := true } t := by rw [tickSt, if_pos e1]
        have hb3 : Blk ((w.setCell ⟨b, 5, none⟩ (.int .i64 t)).setCell ⟨b, 6, none⟩ (.bool true)) b 65 (bufCells v { s with clock := t, ticked := true }) := (h.pq.blk.set_ 5 _).set_ 6 _
        have hf3 : Fr (fun j => j = b) w ((w.setCell ⟨b, 5, none⟩ (.int .i64 t)).setCell ⟨b, 6, none⟩ (.bool true)) := by
          iterate 2 (refine Fr.setCell ?_ _ (by intro _; rfl) _)
          exact Fr.refl _ _
        have HC := Lib.hid (fun w4 => (show Blk w4 b 65 (bufCells v (seeSt { s with clock := t, ticked := true } t)) → Fr (fun j => j = b) w w4 → IsBuf w4 B b v (tickSt s t) q by
          intro hb4 hf4
          rw [e2]
          exact ⟨⟨hb4, rfl, h.pq.row.fr hf4 (fun k hk e => h.pq.ne_ (by rw [hk, e])), h.pq.le⟩, h.heap, h.small⟩))
        have hl0 := hf.lat0
        have hl1 := hf.lat1
        rw [e1]
        rw [hc'] at c9
        cases hmk : s.ticked with
        | true =>
          have ht : s.clock ≤ t := by simp only [hmk, true_and] at hm; omega
          rw [hmk] at c6
          clear e1 e2 hc hc' h hm hmk hsame
          go_enter Try.func17, Try.ntmps17
          go_wp2_with fail
          refine (hin.out _).mono ?_
          rw [hi]
          rintro e w' ⟨rfl, rfl⟩
          go_wp2_with (go_at_call 26; refine (see_any b v { s with clock := t, ticked := true } t _ hb3 ht1 ht2 hl0 hl1).mono ?_; rintro e w4 ⟨rfl, hb4, hf5⟩)
          go_ret
          exact ⟨rfl, HC.out _ hb4 (hf3.trans' hf5), hf3.trans' hf5⟩
        | false =>
          rw [hmk] at c6
          clear e1 e2 hc hc' h hm hmk hsame
          go_enter Try.func17, Try.ntmps17
          go_wp2_with fail
          refine (hin.out _).mono ?_
          rw [hi]
          rintro e w' ⟨rfl, rfl⟩
          go_wp2_with (go_at_call 26; refine (see_any b v { s with clock := t, ticked := true } t _ hb3 ht1 ht2 hl0 hl1).mono ?_; rintro e w4 ⟨rfl, hb4, hf5⟩)
          go_ret
          exact ⟨rfl, HC.out _ hb4 (hf3.trans' hf5), hf3.trans' hf5⟩
    · have hi' : inst t = false := by simpa using hi
      have e1 : tickCode s t = 2 := by simp [tickCode, hc', hi']
      have E1 := Lib.hid e1
      rw [e1]
      rw [hc'] at c9
      clear e1 hc hc' h hi
      go_enter Try.func17, Try.ntmps17
      go_wp2_with fail
      refine (hin.out _).mono ?_
      rw [hi']
      rintro e w' ⟨rfl, rfl⟩
      go_wp2_with fail
      go_ret
      exact ⟨rfl, hsame.out (by rw [E1.out]; decide), Fr.refl _ _⟩

end Go.Proofs.Ytgcmdoinihehcaa
