/- A part of the proofs over a buffer of what comes late: contracts of the functions, each by a walk. -/
import Derived.Test.YtgcmdoinihehcaaWk
import Derived.WalkKit
import Derived.WalkLawsBesides
import Derived.WalkSpells
import Derived.Deep.QuietTactic
import Derived.BigRegion
import Derived.BigQuiet
import Derived.Lib.Hide
import Derived.Outline
import Derived.Deep.AppendLies
import Derived.Deep.RegionLaw
import Derived.Deep.RegionWith
import Derived.Deep.RegionHeld3
import Derived.Deep.LoopGhost
import Derived.Deep.DeepFit
import Derived.Laws.ResultCell
import Derived.Deep.MidRow
import Derived.StillTailTactics
import Derived.OpenShut
namespace Go.Proofs.Ytgcmdoinihehcaa
set_option linter.unusedVariables false
open Go.RowKit Go

/-- Of a slice of integers that came in: it is nil, or it leads to a row of its numbers. -/
def IsRow (k : IntKind) (w : World) (a : Option Addr) (len cap : Nat) (zs : List Int) : Prop :=
  (a = none ∧ len = 0 ∧ cap = 0 ∧ zs = []) ∨
  ∃ x, a = some x ∧ len ≤ cap ∧ cap ≤ maxLen ∧ zs.length = cap ∧ (∀ i, i < zs.length → w.cell? (x.add i) = some (.int k (zs.getD i 0))) ∧ ∀ n ∈ zs, (Lit.int k n).wf = true

/-- The cell of an element. -/
theorem IsRow.at_ {k : IntKind} {w : World} {a : Option Addr} {len cap : Nat} {zs : List Int} (h : IsRow k w a len cap zs) {i : Nat} (hi : i < len) :
    ∃ b off, a = some ⟨b, off, none⟩ ∧ len ≤ cap ∧ b < w.heap.size ∧ w.cell? ⟨b, off + i, none⟩ = some (.int k (zs.getD i 0)) ∧ (Lit.int k (zs.getD i 0)).wf = true := by
  rcases h with ⟨_, h, _, _⟩ | ⟨x, rfl, hl, hm, hz, hc, hw⟩
  · omega
  · obtain ⟨b, off, rfl, hc'⟩ := ints_at hc (by omega)
    have h1 := hc' i (by omega)
    refine ⟨b, off, rfl, hl, World.block_lt_of_cell? w _ h1, h1, ?_⟩
    apply hw
    rw [List.getD_eq_getElem?_getD, List.getElem?_eq_getElem (by omega)]
    simp

structure LRel (lat high : Int) (some_ : Bool) (L k : Nat) (s : St) (n : Nat) : Prop where
  hlat : s.lat = lat
  room : s.room = 1000
  closed : s.closed = false
  marked : s.marked = some_
  mark : some_ = true → s.mark = high - lat
  late : s.late = (L : Int)
  num : s.num = (n : Int)
  sum : n + L = k
  h0 : -32768 ≤ high
  h1 : high ≤ 32767

theorem LRel.fit {lat high : Int} {some_ : Bool} {L k n : Nat} {s : St} (h : LRel lat high some_ L k s n) (h0 : 0 ≤ lat) (h1 : lat ≤ 255) (hk : k ≤ 60) : Fit s := by
  have := h.hlat; have := h.room; have := h.late; have := h.num; have := h.sum
  exact ⟨by omega, by omega, by omega, by omega, by omega, by omega, by omega⟩

theorem LRel.start (lat : Int) : LRel lat 0 false 0 0 (newSt lat 1000) 0 := ⟨rfl, rfl, rfl, rfl, by simp, rfl, rfl, rfl, by omega, by omega⟩

theorem inst_small {t : Int} (h0 : -1152921504606846976 ≤ t) (h1 : t ≤ 1152921504606846976) : inst t = true := by simp [inst, h0, h1]

theorem LRel.late_ {lat high t : Int} {L k n : Nat} {s : St} (h : LRel lat high true L k s n) (ht0 : -32768 ≤ t) (ht1 : t ≤ 32767) (hl : t < high - lat) :
    pushCode s n t = 7 ∧ LRel lat high true (L + 1) (k + 1) (pushSt s n t) n := by
  have e : pushCode s n t = 7 := by
    unfold pushCode
    rw [if_neg (by rw [h.closed]; decide), if_neg (by rw [inst_small (by omega) (by omega)]; decide), if_pos ⟨h.marked, by rw [h.mark rfl]; exact hl⟩]
  refine ⟨e, ?_⟩
  unfold pushSt
  rw [if_pos e]
  exact ⟨h.hlat, h.room, h.closed, h.marked, h.mark, by show s.late + 1 = _; rw [h.late]; rfl, h.num, by have := h.sum; omega, h.h0, h.h1⟩

theorem LRel.ok_ {lat high t : Int} {some_ : Bool} {L k n : Nat} {s : St} (h : LRel lat high some_ L k s n) (ht0 : -32768 ≤ t) (ht1 : t ≤ 32767) (hl : ¬ (some_ = true ∧ t < high - lat)) (hk : k ≤ 60) :
    pushCode s n t = 0 ∧ LRel lat (if some_ = false ∨ high < t then t else high) true L (k + 1) (pushSt s n t) (n + 1) := by
  have hsum := h.sum
  have e : pushCode s n t = 0 := by
    unfold pushCode
    rw [if_neg (by rw [h.closed]; decide), if_neg (by rw [inst_small (by omega) (by omega)]; decide), if_neg (fun hc => hl ⟨by rw [← h.marked]; exact hc.1, by have := h.mark (by rw [← h.marked]; exact hc.1); omega⟩), if_neg (by rw [h.room]; omega)]
  have e2 : pushSt s n t = seeSt { s with num := s.num + 1 } t := by
    unfold pushSt
    rw [if_neg (by rw [e]; decide), if_pos e]
  have hb : -32768 ≤ (if some_ = false ∨ high < t then t else high) ∧ (if some_ = false ∨ high < t then t else high) ≤ 32767 := by
    have := h.h0; have := h.h1
    split <;> omega
  have hm : seeSt { s with num := s.num + 1 } t = { s with num := s.num + 1, mark := (if some_ = false ∨ high < t then t else high) - lat, marked := true } := by
    unfold seeSt
    have h2 := h.marked
    have h3 := h.mark
    have h5 := h.hlat
    cases some_ with
    | false => simp [h2, h5]
    | true =>
      by_cases hh : high < t
      · have : s.mark < t - s.lat := by rw [h3 rfl, h5]; omega
        rw [h5] at this
        simp [h2, this, hh, h5]
      · have h4 : ¬ s.mark < t - s.lat := by rw [h3 rfl, h5]; omega
        have h6 := h3 rfl
        rw [h5] at h4
        rw [if_neg (by simp [h2, h5]; omega)]
        rw [show (if (true = false ∨ high < t) then t else high) = high from if_neg (by simp [hh]), ← h6]
        cases s
        simp only at h2
        subst h2
        rfl
  rw [e2, hm]
  exact ⟨e, h.hlat, h.room, h.closed, rfl, fun _ => rfl, h.late, by show s.num + 1 = _; rw [h.num]; rfl, by omega, hb.1, hb.2⟩

end Go.Proofs.Ytgcmdoinihehcaa
