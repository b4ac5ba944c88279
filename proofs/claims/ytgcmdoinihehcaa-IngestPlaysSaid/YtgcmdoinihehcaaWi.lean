/- A part of the proofs over a buffer of what comes late: contracts of the functions, each by a walk. -/
import Derived.Test.YtgcmdoinihehcaaWh
import Derived.WalkKit
import Derived.WalkLawsBesides
import Derived.WalkSpells
import Derived.Deep.QuietTactic
import Derived.BigRegion
import Derived.BigQuiet
import Derived.Lib.Hide
import Derived.Outline
import Derived.Deep.AppendLies
import Derived.Deep.RegionLaw
import Derived.Deep.RegionWith
import Derived.Deep.RegionHeld3
import Derived.Deep.LoopGhost
import Derived.Deep.DeepFit
import Derived.Laws.ResultCell
import Derived.Deep.MidRow
import Derived.StillTailTactics
namespace Go.Proofs.Ytgcmdoinihehcaa
set_option linter.unusedVariables false
open Go.RowKit Go

def inst (t : Int) : Bool := decide (-1152921504606846976 ≤ t) && decide (t ≤ 1152921504606846976)

def seeSt (s : St) (t : Int) : St := if !s.marked || decide (s.mark < t - s.lat) then { s with mark := t - s.lat, marked := true } else s

theorem instant_any (t : Int) (w : World) : Calls Try.prog 24 #[.int .i64 t] w fun e w' => e = .returned (.bool (inst t)) ∧ w = w' := by
  by_cases h : -1152921504606846976 ≤ t
  · have fin := Lib.hid (show inst t = decide (t ≤ 1152921504606846976) by simp [inst, h])
    go_enter Try.func24, Try.ntmps24
    go_wp2
    go_ret
    exact ⟨by rw [fin.out]; rfl, rfl⟩
  · have fin := Lib.hid (show inst t = false by simp [inst, h])
    go_enter Try.func24, Try.ntmps24
    go_wp2
    go_ret
    exact ⟨by rw [fin.out]; rfl, rfl⟩

theorem see_any (b : Nat) (v : Value) (s : St) (t : Int) (w : World) (h : Blk w b 65 (bufCells v s)) (h1 : -1152921504606846976 ≤ t) (h2 : t ≤ 1152921504606846976) (h3 : 0 ≤ s.lat) (h4 : s.lat ≤ 1152921504606846976) :
    Calls Try.prog 26 #[.pointer (some ⟨b, 0, none⟩), .int .i64 t] w fun e w' => e = .returned (.tuple #[]) ∧ Blk w' b 65 (bufCells v (seeSt s t)) ∧ Fr (fun j => j = b) w w' := by
  have c1 : w.cell? ⟨b, 1, none⟩ = some (.int .i64 s.lat) := h.cell 1
  have c3 : w.cell? ⟨b, 3, none⟩ = some (.int .i64 s.mark) := h.cell 3
  have c4 : w.cell? ⟨b, 4, none⟩ = some (.bool s.marked) := h.cell 4
  have f3 := h.frozen 3
  have f4 := h.frozen 4
  have hset : Blk ((w.setCell ⟨b, 3, none⟩ (.int .i64 (t - s.lat))).setCell ⟨b, 4, none⟩ (.bool true)) b 65 (bufCells v { s with mark := t - s.lat, marked := true }) := (h.set_ 3 _).set_ 4 _
  have hfr : Fr (fun j => j = b) w ((w.setCell ⟨b, 3, none⟩ (.int .i64 (t - s.lat))).setCell ⟨b, 4, none⟩ (.bool true)) := by
    iterate 2 (refine Fr.setCell ?_ _ (by intro _; rfl) _)
    exact Fr.refl _ _
  by_cases hc : s.marked = true
  · by_cases hm : s.mark < t - s.lat
    · have fin := Lib.hid (show seeSt s t = { s with mark := t - s.lat, marked := true } by simp [seeSt, hc, hm])
      go_enter Try.func26, Try.ntmps26
      go_wp2
      go_end0
      exact ⟨rfl, by rw [fin.out]; exact hset, hfr⟩
    · have fin := Lib.hid (show seeSt s t = s by simp [seeSt, hc, hm])
      have hm' : t - s.lat ≤ s.mark := by omega
      clear hm
      go_enter Try.func26, Try.ntmps26
      go_wp2
      go_end0
      exact ⟨rfl, by rw [fin.out]; exact h, Fr.refl _ _⟩
  · have hc' : s.marked = false := by simpa using hc
    have fin := Lib.hid (show seeSt s t = { s with mark := t - s.lat, marked := true } by simp [seeSt, hc'])
    clear hc
    go_enter Try.func26, Try.ntmps26
    go_wp2
    go_end0
    exact ⟨rfl, by rw [fin.out]; exact hset, hfr⟩


def pushCode (s : St) (n : Nat) (t : Int) : Int :=
  if s.closed = true then 14 else if inst t = false then 2 else if s.marked = true ∧ t < s.mark then 7 else if s.room ≤ (n : Int) then 6 else 0

def pushSt (s : St) (n : Nat) (t : Int) : St :=
  if pushCode s n t = 7 then { s with late := s.late + 1 } else if pushCode s n t = 0 then seeSt { s with num := s.num + 1 } t else s

/-- What a Push leaves. -/
structure Pushed (w w' : World) (B b : Nat) (v : Value) (s : St) (q : Array Item) (t k0 k1 k2 : Int) (v' : Value) (q' : Array Item) : Prop where
  buf : IsBuf w' B b v' (pushSt s q.size t) q'
  wait : if pushCode s q.size t = 0 then q'.toList.Perm (⟨t, s.num, k0, k1, k2⟩ :: q.toList) else q' = q
  fr : Fr (fun j => j = b ∨ v.ownBlock = some j) w w'
  own : v'.ownBlock = v.ownBlock ∨ ∃ g, v'.ownBlock = some g ∧ w.heap.size ≤ g

theorem Pushed.same {w w' : World} {B b : Nat} {v : Value} {s : St} {q : Array Item} {t k0 k1 k2 : Int} (h : IsBuf w B b v s q) (hs : pushSt s q.size t = s) (hc : pushCode s q.size t ≠ 0) (hf : Fr (fun _ => False) w w') :
    Pushed w w' B b v s q t k0 k1 k2 v q :=
  ⟨by rw [hs]; exact ⟨h.pq.fr hf (fun h => h) (fun _ _ h => h), h.heap, h.small⟩, by rw [if_neg hc], hf.mono (fun _ _ h => h.elim), .inl rfl⟩

theorem push_closed (B b : Nat) (v : Value) (s : St) (q : Array Item) (t k0 k1 k2 : Int) (w : World) (h : IsBuf w B b v s q) (hc : s.closed = true) :
    Calls Try.prog 11 #[.pointer (some ⟨b, 0, none⟩), .int .i64 t, .agg #[.int .i64 k0, .int .i64 k1, .int .i64 k2]] w fun e w' => ∃ v' q', e = .returned (.int .i64 (pushCode s q.size t)) ∧ Pushed w w' B b v s q t k0 k1 k2 v' q' := by
  have e1 : pushCode s q.size t = 14 := by simp [pushCode, hc]
  have e2 : pushSt s q.size t = s := by simp [pushSt, e1]
  have fin := Lib.hid (fun w' hf => (Pushed.same (k0 := k0) (k1 := k1) (k2 := k2) (w' := w') h e2 (by omega) hf))
  rw [e1]
  have hlt := h.pq.blk.lt
  have c9 : (w.alloc (.cells #[.int .i64 k0, .int .i64 k1, .int .i64 k2] 31)).cell? ⟨b, 9, none⟩ = some (.bool s.closed) := (h.pq.blk.alloc _).cell 9
  rw [hc] at c9
  clear e1 e2 hc h
  go_enter Try.func11, Try.ntmps11
  go_wp2_with fail
  go_ret
  exact ⟨v, q, rfl, fin.out _ ((Fr.refl _ w).alloc _)⟩


theorem push_range (B b : Nat) (v : Value) (s : St) (q : Array Item) (t k0 k1 k2 : Int) (w : World) (h : IsBuf w B b v s q) (hc : s.closed = false) (hi : inst t = false) :
    Calls Try.prog 11 #[.pointer (some ⟨b, 0, none⟩), .int .i64 t, .agg #[.int .i64 k0, .int .i64 k1, .int .i64 k2]] w fun e w' => ∃ v' q', e = .returned (.int .i64 (pushCode s q.size t)) ∧ Pushed w w' B b v s q t k0 k1 k2 v' q' := by
  have e1 : pushCode s q.size t = 2 := by simp [pushCode, hc, hi]
  have e2 : pushSt s q.size t = s := by simp [pushSt, e1]
  have fin := Lib.hid (fun w' hf => (Pushed.same (k0 := k0) (k1 := k1) (k2 := k2) (w' := w') h e2 (by omega) hf))
  rw [e1]
  have hlt := h.pq.blk.lt
  have c9 : (w.alloc (.cells #[.int .i64 k0, .int .i64 k1, .int .i64 k2] 31)).cell? ⟨b, 9, none⟩ = some (.bool s.closed) := (h.pq.blk.alloc _).cell 9
  rw [hc] at c9
  have hin := Lib.hid (fun w => instant_any t w)
  clear e1 e2 hc h
  go_enter Try.func11, Try.ntmps11
  go_wp2_with fail
  refine (hin.out _).mono ?_
  rw [hi]
  rintro e w' ⟨rfl, rfl⟩
  go_wp2_with fail
  go_ret
  exact ⟨v, q, rfl, fin.out _ ((Fr.refl _ w).alloc _)⟩

theorem push_late (B b : Nat) (v : Value) (s : St) (q : Array Item) (t k0 k1 k2 : Int) (w : World) (h : IsBuf w B b v s q) (hc : s.closed = false) (hi : inst t = true) (hm : s.marked = true) (ht : t < s.mark) (hl0 : 0 ≤ s.late) (hl : s.late ≤ 1000000) :
    Calls Try.prog 11 #[.pointer (some ⟨b, 0, none⟩), .int .i64 t, .agg #[.int .i64 k0, .int .i64 k1, .int .i64 k2]] w fun e w' => ∃ v' q', e = .returned (.int .i64 (pushCode s q.size t)) ∧ Pushed w w' B b v s q t k0 k1 k2 v' q' := by
  have e1 : pushCode s q.size t = 7 := by simp [pushCode, hc, hi, hm, ht]
  have e2 : pushSt s q.size t = { s with late := s.late + 1 } := by simp [pushSt, e1]
  have hlt := h.pq.blk.lt
  have fin : ∀ O, Pushed w ((w.setCell ⟨b, 8, none⟩ (.int .i64 (s.late + 1))).alloc O) B b v s q t k0 k1 k2 v q := fun O => by
    have hf : Fr (fun j => j = b) w ((w.setCell ⟨b, 8, none⟩ (.int .i64 (s.late + 1))).alloc O) := Fr.alloc (Fr.setCell (Fr.refl _ w) ⟨b, 8, none⟩ (by intro _; rfl) _) _
    refine ⟨⟨⟨?_, ?_, h.pq.row.fr hf (fun k hk e => h.pq.ne_ (by rw [hk, e])), h.pq.le⟩, h.heap, h.small⟩, by rw [e1, if_neg (by decide)], hf.mono fun _ _ h => .inl h, .inl rfl⟩
    · rw [e2]; exact Blk.alloc (h.pq.blk.set_ 8 _) _
    · rw [e2]; rfl
  have FIN := Lib.hid fin
  rw [e1]
  have b1 : Blk (w.alloc (.cells #[.int .i64 k0, .int .i64 k1, .int .i64 k2] 31)) b 65 (bufCells v s) := h.pq.blk.alloc _
  have c9 : (w.alloc (.cells #[.int .i64 k0, .int .i64 k1, .int .i64 k2] 31)).cell? ⟨b, 9, none⟩ = some (.bool s.closed) := b1.cell 9
  have c4 : (w.alloc (.cells #[.int .i64 k0, .int .i64 k1, .int .i64 k2] 31)).cell? ⟨b, 4, none⟩ = some (.bool s.marked) := b1.cell 4
  have c3 : (w.alloc (.cells #[.int .i64 k0, .int .i64 k1, .int .i64 k2] 31)).cell? ⟨b, 3, none⟩ = some (.int .i64 s.mark) := b1.cell 3
  have c8 : (w.alloc (.cells #[.int .i64 k0, .int .i64 k1, .int .i64 k2] 31)).cell? ⟨b, 8, none⟩ = some (.int .i64 s.late) := b1.cell 8
  have f8 := b1.frozen 8
  rw [hc] at c9
  rw [hm] at c4
  have hin := Lib.hid (fun w => instant_any t w)
  clear e1 e2 hc hm h fin b1
  go_enter Try.func11, Try.ntmps11
  go_wp2_with fail
  refine (hin.out _).mono ?_
  rw [hi]
  rintro e w' ⟨rfl, rfl⟩
  go_wp2_with fail
  go_ret
  exact ⟨v, q, rfl, FIN.out _⟩

/-- The way to the last test. -/
theorem push_full (B b : Nat) (v : Value) (s : St) (q : Array Item) (t k0 k1 k2 : Int) (w : World) (h : IsBuf w B b v s q) (hc : s.closed = false) (hi : inst t = true) (hm : ¬ (s.marked = true ∧ t < s.mark)) (hr : s.room ≤ (q.size : Int)) :
    Calls Try.prog 11 #[.pointer (some ⟨b, 0, none⟩), .int .i64 t, .agg #[.int .i64 k0, .int .i64 k1, .int .i64 k2]] w fun e w' => ∃ v' q', e = .returned (.int .i64 (pushCode s q.size t)) ∧ Pushed w w' B b v s q t k0 k1 k2 v' q' := by
  have e1 : pushCode s q.size t = 6 := by
    unfold pushCode
    rw [if_neg (by rw [hc]; decide), if_neg (by rw [hi]; decide), if_neg hm, if_pos hr]
  have e2 : pushSt s q.size t = s := by simp [pushSt, e1]
  have fin := Lib.hid (fun w' hf => (Pushed.same (k0 := k0) (k1 := k1) (k2 := k2) (w' := w') h e2 (by omega) hf))
  rw [e1]
  have hlt := h.pq.blk.lt
  obtain ⟨A, c, hv⟩ := h.pq.row.shape
  have b1 : Blk (w.alloc (.cells #[.int .i64 k0, .int .i64 k1, .int .i64 k2] 31)) b 65 (bufCells v s) := h.pq.blk.alloc _
  have c9 : (w.alloc (.cells #[.int .i64 k0, .int .i64 k1, .int .i64 k2] 31)).cell? ⟨b, 9, none⟩ = some (.bool s.closed) := b1.cell 9
  have c4 : (w.alloc (.cells #[.int .i64 k0, .int .i64 k1, .int .i64 k2] 31)).cell? ⟨b, 4, none⟩ = some (.bool s.marked) := b1.cell 4
  have c3 : (w.alloc (.cells #[.int .i64 k0, .int .i64 k1, .int .i64 k2] 31)).cell? ⟨b, 3, none⟩ = some (.int .i64 s.mark) := b1.cell 3
  have c2 : (w.alloc (.cells #[.int .i64 k0, .int .i64 k1, .int .i64 k2] 31)).cell? ⟨b, 2, none⟩ = some (.int .i64 s.room) := b1.cell 2
  have c0 : (w.alloc (.cells #[.int .i64 k0, .int .i64 k1, .int .i64 k2] 31)).cell? ⟨b, 0, none⟩ = some v := b1.cell 0
  rw [hc] at c9
  rw [hv] at c0
  have hin := Lib.hid (fun w => instant_any t w)
  clear hv e1 e2 hc h b1
  cases hmk : s.marked with
  | true =>
    have ht : s.mark ≤ t := by simp only [hmk, true_and] at hm; omega
    rw [hmk] at c4
    clear hm hmk
    go_enter Try.func11, Try.ntmps11
    go_wp2_with fail
    refine (hin.out _).mono ?_
    rw [hi]
    rintro e w' ⟨rfl, rfl⟩
    go_wp2_with fail
    go_quiet (fail)
    go_wp2_with fail
    go_ret
    exact ⟨v, q, rfl, fin.out _ (((Fr.refl _ w).alloc _).drewN _)⟩
  | false =>
    rw [hmk] at c4
    clear hm hmk
    go_enter Try.func11, Try.ntmps11
    go_wp2_with fail
    refine (hin.out _).mono ?_
    rw [hi]
    rintro e w' ⟨rfl, rfl⟩
    go_wp2_with fail
    go_quiet (fail)
    go_wp2_with fail
    go_ret
    exact ⟨v, q, rfl, fin.out _ (((Fr.refl _ w).alloc _).drewN _)⟩

theorem push_ok_close {w w1 w2 w3 w4 : World} {B b : Nat} {v v' : Value} {s : St} {q q' : Array Item} {t k0 k1 k2 : Int} (h : IsBuf w B b v s q) (hcode : pushCode s q.size t = 0) (hr : (q.size : Int) < s.room) (hr2 : s.room ≤ 1000)
    (hf1 : Fr (fun _ => False) w w1) (hp : PQ w2 B b (bufCells v' s) v' q') (hh : IsHeap q' q'.size) (hperm : q'.toList.Perm (⟨t, s.num, k0, k1, k2⟩ :: q.toList)) (hf2 : Fr (fun j => j = b ∨ v.ownBlock = some j) w1 w2)
    (ho : v'.ownBlock = v.ownBlock ∨ ∃ g, v'.ownBlock = some g ∧ w1.heap.size ≤ g)
    (hf3 : Fr (fun j => j = b) w2 w3) (hb4 : Blk w4 b 65 (bufCells v' (seeSt { s with num := s.num + 1 } t))) (hf4 : Fr (fun j => j = b) w3 w4) :
    Pushed w w4 B b v s q t k0 k1 k2 v' q' := by
  have e2 : pushSt s q.size t = seeSt { s with num := s.num + 1 } t := by unfold pushSt; rw [hcode]; rfl
  have hf34 := hf3.trans' hf4
  have hsz : q'.size = q.size + 1 := by have := hperm.length_eq; simpa using this
  refine ⟨⟨⟨by rw [e2]; exact hb4, by rw [e2]; rfl, hp.row.fr hf34 (fun k hk e => hp.ne_ (by rw [hk, e])), h.pq.le⟩, hh, by omega⟩, by rw [if_pos hcode]; exact hperm, ?_, ?_⟩
  · exact ((hf1.mono fun _ _ h => h.elim).trans' hf2).trans hf34 fun _ _ h => .inl h
  · rcases ho with ho | ⟨g, hg, hge⟩
    · exact .inl ho
    · exact .inr ⟨g, hg, Nat.le_trans hf1.size hge⟩

set_option maxHeartbeats 1000000 in
theorem push_ok (B b : Nat) (v : Value) (s : St) (q : Array Item) (t k0 k1 k2 : Int) (w : World) (h : IsBuf w B b v s q) (hc : s.closed = false) (hi : inst t = true) (hm : ¬ (s.marked = true ∧ t < s.mark)) (hr : ¬ s.room ≤ (q.size : Int))
    (hr2 : s.room ≤ 1000) (hl0 : 0 ≤ s.lat) (hl1 : s.lat ≤ 1152921504606846976) (hn0 : 0 ≤ s.num) (hn1 : s.num ≤ 1000000) :
    Calls Try.prog 11 #[.pointer (some ⟨b, 0, none⟩), .int .i64 t, .agg #[.int .i64 k0, .int .i64 k1, .int .i64 k2]] w fun e w' => ∃ v' q', e = .returned (.int .i64 (pushCode s q.size t)) ∧ Pushed w w' B b v s q t k0 k1 k2 v' q' := by
  have e1 : pushCode s q.size t = 0 := by
    unfold pushCode
    rw [if_neg (by rw [hc]; decide), if_neg (by rw [hi]; decide), if_neg hm, if_neg hr]
  have hr' : (q.size : Int) < s.room := by omega
  have CL := Lib.hid (fun w1 w2 w3 w4 v' q' => push_ok_close (w1 := w1) (w2 := w2) (w3 := w3) (w4 := w4) (v' := v') (q' := q') (k0 := k0) (k1 := k1) (k2 := k2) h e1 hr' hr2)
  rw [e1]
  have hti : -1152921504606846976 ≤ t ∧ t ≤ 1152921504606846976 := by simpa [inst] using hi
  obtain ⟨ht1, ht2⟩ := hti
  have hlt := h.pq.blk.lt
  obtain ⟨A, c, hv⟩ := h.pq.row.shape
  have hh := h.heap
  have hp1 : ∀ O, PQ (w.alloc O) B b (bufCells v s) v q := fun O => h.pq.fr ((Fr.refl (fun _ => False) w).alloc O) (fun h => h) (fun _ _ h => h)
  have HP := Lib.hid hp1
  have HC := Lib.hid (fun W hW => hpush_any B b (bufCells v s) v q ⟨t, s.num, k0, k1, k2⟩ W hW (by omega) hh)
  have b1 : Blk (w.alloc (.cells #[.int .i64 k0, .int .i64 k1, .int .i64 k2] 31)) b 65 (bufCells v s) := h.pq.blk.alloc _
  have c9 : (w.alloc (.cells #[.int .i64 k0, .int .i64 k1, .int .i64 k2] 31)).cell? ⟨b, 9, none⟩ = some (.bool s.closed) := b1.cell 9
  have c4 : (w.alloc (.cells #[.int .i64 k0, .int .i64 k1, .int .i64 k2] 31)).cell? ⟨b, 4, none⟩ = some (.bool s.marked) := b1.cell 4
  have c3 : (w.alloc (.cells #[.int .i64 k0, .int .i64 k1, .int .i64 k2] 31)).cell? ⟨b, 3, none⟩ = some (.int .i64 s.mark) := b1.cell 3
  have c2 : (w.alloc (.cells #[.int .i64 k0, .int .i64 k1, .int .i64 k2] 31)).cell? ⟨b, 2, none⟩ = some (.int .i64 s.room) := b1.cell 2
  have c7 : (w.alloc (.cells #[.int .i64 k0, .int .i64 k1, .int .i64 k2] 31)).cell? ⟨b, 7, none⟩ = some (.int .i64 s.num) := b1.cell 7
  have c0 : (w.alloc (.cells #[.int .i64 k0, .int .i64 k1, .int .i64 k2] 31)).cell? ⟨b, 0, none⟩ = some v := b1.cell 0
  rw [hc] at c9
  rw [hv] at c0
  have hin := Lib.hid (fun w => instant_any t w)
  have HB := Lib.hid h
  clear hv e1 hc h b1 hp1 hh hr
  cases hmk : s.marked with
  | true =>
    have ht : s.mark ≤ t := by simp only [hmk, true_and] at hm; omega
    rw [hmk] at c4
    clear hm hmk
    go_enter Try.func11, Try.ntmps11
    go_wp2_with fail
    refine (hin.out _).mono ?_
    rw [hi]
    rintro e w' ⟨rfl, rfl⟩
    go_wp2_with fail
    go_quiet (fail)
    go_wp2_with fail
    have hp3 := (HP.out (.cells #[.int .i64 k0, .int .i64 k1, .int .i64 k2] 31)).drewN nq
    have bk : Blk ((w.alloc (.cells #[.int .i64 k0, .int .i64 k1, .int .i64 k2] 31)).drewN nq) w.heap.size 31 #[.int .i64 k0, .int .i64 k1, .int .i64 k2] := Blk.new w 31 _
    have hfr0 : Fr (fun _ => False) w ((w.alloc (.cells #[.int .i64 k0, .int .i64 k1, .int .i64 k2] 31)).drewN nq) := ((Fr.refl _ w).alloc _).drewN _
    generalize ((w.alloc (.cells #[.int .i64 k0, .int .i64 k1, .int .i64 k2] 31)).drewN nq) = W1 at *
    clear c0 c2 c3 c4 c7 c9
    have d7 : W1.cell? ⟨b, 7, none⟩ = some (.int .i64 s.num) := hp3.blk.cell 7
    have k0' : W1.cell? ⟨w.heap.size, 0, none⟩ = some (.int .i64 k0) := bk.cell 0
    have k1' : W1.cell? ⟨w.heap.size, 1, none⟩ = some (.int .i64 k1) := bk.cell 1
    have k2' : W1.cell? ⟨w.heap.size, 2, none⟩ = some (.int .i64 k2) := bk.cell 2
    go_region_with (go_at_call 25; refine (HC.out _ (hp3.drewN 1)).mono ?_; rintro e w2 ⟨rfl, v', q', hp4, hh4, hperm, hf4, ho4⟩)
    all_goals
      clear d7 k0' k1' k2' bk
      have D7 : w2.cell? ⟨b, 7, none⟩ = some (.int .i64 s.num) := hp4.blk.cell 7
      have F7 := hp4.blk.frozen 7
      have hb3 : Blk (w2.setCell ⟨b, 7, none⟩ (.int .i64 (s.num + 1))) b 65 (bufCells v' { s with num := s.num + 1 }) := hp4.blk.set_ 7 _
      have hf3 : Fr (fun j => j = b) w2 (w2.setCell ⟨b, 7, none⟩ (.int .i64 (s.num + 1))) := Fr.setCell (Fr.refl _ _) _ (by intro _; rfl) _
      go_wp2_with (first | (go_at_call 26; refine (see_any b v' { s with num := s.num + 1 } t _ hb3 ht1 ht2 hl0 hl1).mono ?_; rintro e w4 ⟨rfl, hb4, hf5⟩))
      go_ret
      exact ⟨v', q', rfl, CL.out _ _ _ _ _ _ (hfr0.drewN 1) hp4 hh4 hperm hf4 ho4 hf3 hb4 hf5⟩
  | false =>
    rw [hmk] at c4
    clear hm hmk
    go_enter Try.func11, Try.ntmps11
    go_wp2_with fail
    refine (hin.out _).mono ?_
    rw [hi]
    rintro e w' ⟨rfl, rfl⟩
    go_wp2_with fail
    go_quiet (fail)
    go_wp2_with fail
    have hp3 := (HP.out (.cells #[.int .i64 k0, .int .i64 k1, .int .i64 k2] 31)).drewN nq
    have bk : Blk ((w.alloc (.cells #[.int .i64 k0, .int .i64 k1, .int .i64 k2] 31)).drewN nq) w.heap.size 31 #[.int .i64 k0, .int .i64 k1, .int .i64 k2] := Blk.new w 31 _
    have hfr0 : Fr (fun _ => False) w ((w.alloc (.cells #[.int .i64 k0, .int .i64 k1, .int .i64 k2] 31)).drewN nq) := ((Fr.refl _ w).alloc _).drewN _
    generalize ((w.alloc (.cells #[.int .i64 k0, .int .i64 k1, .int .i64 k2] 31)).drewN nq) = W1 at *
    clear c0 c2 c3 c4 c7 c9
    have d7 : W1.cell? ⟨b, 7, none⟩ = some (.int .i64 s.num) := hp3.blk.cell 7
    have k0' : W1.cell? ⟨w.heap.size, 0, none⟩ = some (.int .i64 k0) := bk.cell 0
    have k1' : W1.cell? ⟨w.heap.size, 1, none⟩ = some (.int .i64 k1) := bk.cell 1
    have k2' : W1.cell? ⟨w.heap.size, 2, none⟩ = some (.int .i64 k2) := bk.cell 2
    go_region_with (go_at_call 25; refine (HC.out _ (hp3.drewN 1)).mono ?_; rintro e w2 ⟨rfl, v', q', hp4, hh4, hperm, hf4, ho4⟩)
    all_goals
      clear d7 k0' k1' k2' bk
      have D7 : w2.cell? ⟨b, 7, none⟩ = some (.int .i64 s.num) := hp4.blk.cell 7
      have F7 := hp4.blk.frozen 7
      have hb3 : Blk (w2.setCell ⟨b, 7, none⟩ (.int .i64 (s.num + 1))) b 65 (bufCells v' { s with num := s.num + 1 }) := hp4.blk.set_ 7 _
      have hf3 : Fr (fun j => j = b) w2 (w2.setCell ⟨b, 7, none⟩ (.int .i64 (s.num + 1))) := Fr.setCell (Fr.refl _ _) _ (by intro _; rfl) _
      go_wp2_with (first | (go_at_call 26; refine (see_any b v' { s with num := s.num + 1 } t _ hb3 ht1 ht2 hl0 hl1).mono ?_; rintro e w4 ⟨rfl, hb4, hf5⟩))
      go_ret
      exact ⟨v', q', rfl, CL.out _ _ _ _ _ _ (hfr0.drewN 1) hp4 hh4 hperm hf4 ho4 hf3 hb4 hf5⟩

/-- A state that may be: what the walks lean on. -/
structure Fit (s : St) : Prop where
  lat0 : 0 ≤ s.lat
  lat1 : s.lat ≤ 1152921504606846976
  room : s.room ≤ 1000
  num0 : 0 ≤ s.num
  num1 : s.num ≤ 1000000
  late0 : 0 ≤ s.late
  late1 : s.late ≤ 1000000

theorem pushB (B b : Nat) (v : Value) (s : St) (q : Array Item) (t k0 k1 k2 : Int) (w : World) (h : IsBuf w B b v s q) (hf : Fit s) :
    Calls Try.prog 11 #[.pointer (some ⟨b, 0, none⟩), .int .i64 t, .agg #[.int .i64 k0, .int .i64 k1, .int .i64 k2]] w fun e w' => ∃ v' q', e = .returned (.int .i64 (pushCode s q.size t)) ∧ Pushed w w' B b v s q t k0 k1 k2 v' q' := by
  by_cases hc : s.closed = true
  · exact push_closed B b v s q t k0 k1 k2 w h hc
  · have hc' : s.closed = false := by simpa using hc
    by_cases hi : inst t = true
    · by_cases hm : s.marked = true ∧ t < s.mark
      · exact push_late B b v s q t k0 k1 k2 w h hc' hi hm.1 hm.2 hf.late0 hf.late1
      · by_cases hr : s.room ≤ (q.size : Int)
        · exact push_full B b v s q t k0 k1 k2 w h hc' hi hm hr
        · exact push_ok B b v s q t k0 k1 k2 w h hc' hi hm hr hf.room hf.lat0 hf.lat1 hf.num0 hf.num1
    · exact push_range B b v s q t k0 k1 k2 w h hc' (by simpa using hi)

end Go.Proofs.Ytgcmdoinihehcaa
