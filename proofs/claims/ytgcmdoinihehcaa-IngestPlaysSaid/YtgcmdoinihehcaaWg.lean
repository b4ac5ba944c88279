/- A part of the proofs over a buffer of what comes late: contracts of the functions, each by a walk. -/
import Derived.Test.YtgcmdoinihehcaaWf
import Derived.WalkKit
import Derived.WalkLawsBesides
import Derived.WalkSpells
import Derived.Deep.QuietTactic
import Derived.BigRegion
import Derived.BigQuiet
import Derived.Lib.Hide
import Derived.Outline
import Derived.Deep.AppendLies
import Derived.Deep.RegionLaw
import Derived.Deep.RegionWith
import Derived.Deep.RegionHeld3
import Derived.Deep.LoopGhost
import Derived.Deep.DeepFit
import Derived.Laws.ResultCell
import Derived.Deep.MidRow
import Derived.StillTailTactics
namespace Go.Proofs.Ytgcmdoinihehcaa
set_option linter.unusedVariables false
open Go.RowKit Go
attribute [local go_sem] m_push m_pop m_len m_less m_swap run_assert

/-- A buffer's state beside what waits. -/
structure St where
  lat : Int
  room : Int
  mark : Int
  marked : Bool
  clock : Int
  ticked : Bool
  num : Int
  late : Int
  closed : Bool

def bufCells (v : Value) (s : St) : Array Value :=
  #[v, .int .i64 s.lat, .int .i64 s.room, .int .i64 s.mark, .bool s.marked, .int .i64 s.clock, .bool s.ticked, .int .i64 s.num, .int .i64 s.late, .bool s.closed]

theorem bufCells_set0 (v v' : Value) (s : St) : (bufCells v s).setIfInBounds 0 v' = bufCells v' s := rfl

structure IsBuf (w : World) (B b : Nat) (v : Value) (s : St) (q : Array Item) : Prop where
  pq : PQ w B b (bufCells v s) v q
  heap : IsHeap q q.size
  small : q.size ≤ 1000

/-- What has been taken so far, and what is left. -/
structure Taken (q t r : Array Item) : Prop where
  perm : (t.toList ++ r.toList).Perm q.toList
  sorted : t.toList.Pairwise le
  ahead : ∀ x ∈ t.toList, ∀ y ∈ r.toList, le x y

theorem Taken.start (q : Array Item) : Taken q #[] q := ⟨by simp, by simp, by simp⟩

theorem Taken.step {q t r : Array Item} (h : Taken q t r) (hr : 0 < r.size) (hh : IsHeap r r.size) {r' : Array Item} (hp : (r[0]! :: r'.toList).Perm r.toList) : Taken q (t.push r[0]!) r' := by
  have hin : r[0]! ∈ r.toList := hp.subset (by simp)
  refine ⟨?_, ?_, ?_⟩
  · rw [Array.toList_push, List.append_assoc]
    exact (List.Perm.append_left _ hp).trans h.perm
  · rw [Array.toList_push, List.pairwise_append]
    exact ⟨h.sorted, by simp, fun x hx y hy => by rw [List.mem_singleton] at hy; subst hy; exact h.ahead x hx _ hin⟩
  · intro x hx y hy
    have hy' : y ∈ r.toList := hp.subset (by simp [hy])
    rw [Array.toList_push, List.mem_append, List.mem_singleton] at hx
    rcases hx with hx | hx
    · exact h.ahead x hx y hy'
    · subst hx
      obtain ⟨k, hk, rfl⟩ := mem_get hy'
      exact hh.min k hk

theorem Taken.size {q t r : Array Item} (h : Taken q t r) : t.size + r.size = q.size := by
  have := h.perm.length_eq
  simpa using this

/-- Behind an append of one item to what was taken. -/
theorem take_append {w w1 w2 : World} {B b W0 : Nat} {v o o' : Value} {s : St} {t r : Array Item} {x : Item} {O : Obj} (hw0 : W0 ≤ w.heap.size) (hb : PQ w B b (bufCells v s) v r) (hbW : b < W0) (hvW : ∀ k, v.ownBlock = some k → k < W0)
    (he : w1 = w.alloc O) (ho : QRow w W0 o t) (ho' : w2.ownsRow W0 41 5 o' (t.size + 1) (qCells t ++ itemCells x)) (hg : w1.grownBy w2 o.ownBlock) :
    PQ w2 B b (bufCells v s) v r ∧ QRow w2 W0 o' (t.push x) ∧ Fr (fun j => o.ownBlock = some j) w w2 := by
  subst he
  have hf : Fr (fun j => o.ownBlock = some j) w w2 := ((Fr.refl _ w).alloc O).trans' (Fr.of_grown hg)
  have hol := World.ownsRow.lt ho
  refine ⟨hb.fr hf (fun e => by have := (hol _ e).1; omega) (fun k hk e => by have := (hol _ e).1; have := hvW k hk; omega), ?_, hf⟩
  unfold QRow
  rw [qCells_push, Array.size_push]
  exact ho'

set_option maxHeartbeats 1000000 in
theorem flush_any (B b : Nat) (v : Value) (s : St) (q : Array Item) (w : World) (h : IsBuf w B b v s q) :
    Calls Try.prog 15 #[.pointer (some ⟨b, 0, none⟩)] w fun e w' => ∃ v' o t r, e = .returned o ∧ QRow w' w.heap.size o t ∧ IsBuf w' B b v' { s with closed := true } r ∧ Taken q t r ∧ r.size = 0 ∧ Fr (fun j => j = b ∨ v.ownBlock = some j) w w' ∧ v'.ownBlock = v.ownBlock := by
  have hol := World.ownsRow.lt h.pq.row
  have hlt := h.pq.blk.lt
  have hsm := h.small
  have hle := h.pq.le
  obtain ⟨i0, hi, hz0, hz1, hz2⟩ := info_parts info41
  go_enter Try.func15, Try.ntmps15
  go_wp2_with fail
  go_loopg [3] (q.size) (fun g ov wr => ∃ (v' : Value) (t r : Array Item), QRow wr w.heap.size ov t ∧ PQ wr B b (bufCells v' s) v' r ∧ IsHeap r r.size ∧ Taken q t r ∧ r.size ≤ g ∧ Fr (fun j => j = b ∨ v.ownBlock = some j) w wr ∧ v'.ownBlock = v.ownBlock)
  case atStart => exact ⟨v, #[], q, World.ownsRow_nil _ _ _ _, h.pq, h.heap, Taken.start q, Nat.le_refl _, Fr.refl _ _, rfl⟩
  case round =>
    obtain ⟨v', t, r, ho, hp, hh, ht, hg, hf, hov⟩ := hrel
    have hsz := ht.size
    have c0 := hp.cell0
    by_cases hr : r.size = 0
    · obtain ⟨A, c, hv⟩ := hp.row.shape
      rw [hr] at hv
      rw [hv] at c0
      have c9 : wr.cell? ⟨b, 9, none⟩ = some (.bool s.closed) := hp.blk.cell 9
      have f9 := hp.blk.frozen 9
      have HR := Lib.hid hr
      have HS := Lib.hid hsz
      clear hv hr hsz
      go_wp2_with fail
      go_ret
      have hfs : Fr (fun j => j = b) wr (wr.setCell ⟨b, 9, none⟩ (.bool true)) := Fr.setCell (Fr.refl _ _) _ (by intro _; rfl) _
      refine ⟨v', _, t, r, rfl, ho.fr hfs (fun k hk e => by have := (World.ownsRow.lt ho _ hk).1; omega), ⟨⟨hp.blk.set_ 9 _, rfl, hp.row.fr hfs (fun k hk e => hp.ne_ (by rw [hk, e])), hle⟩, hh, by rw [HR.out]; omega⟩, ht, HR.out, hf.trans hfs (fun _ _ h => .inl h), hov⟩
    · obtain ⟨m, hm⟩ : ∃ m, r.size = m + 1 := ⟨r.size - 1, by omega⟩
      obtain ⟨g', c, hv, -, -⟩ := hp.row.form (by omega)
      have hx := Lib.hid (fun (r' : Array Item) => ht.step (r := r) (by omega) hh (r' := r'))
      have hp1 := Lib.hid (first_any B b (bufCells v' s) v' r m wr hp hm (by omega) hh)
      have hw0 := hf.size
      have hm1 : m ≤ 999 := by omega
      have ht1 : t.size ≤ 999 := by omega
      have HM := Lib.hid hm
      have HO := Lib.hid hol
      have HV := Lib.hid hov
      rw [hv, hm] at c0
      generalize r[0]! = x at *
      clear hm hv hr hsz hh hol hov
      go_wp2_with fail
      refine hp1.out.mono ?_
      rintro e w1 ⟨v1, r1, rfl, hp2, hh2, hperm, hf1, ho1⟩
      have ho2 : QRow w1 w.heap.size u3 t := ho.fr hf1 (fun k hk e => by
        have h1 := (World.ownsRow.lt ho _ hk).1
        rcases e with e | e
        · omega
        · rw [HV.out] at e
          have := (HO.out _ e).2
          omega)
      have hsz1 := hf1.size
      unfold itemAgg
      go_wp2_with (at_builtin; refine wpList_append_lies _ rfl _ _ 37 rfl w.heap.size 41 i0 _ 5 40 Try.underlying37 hi hz0 hz1 hz2 rfl (by decide) u3 t.size (qCells t) (by rfl) (ho2.alloc _) ⟨w1.heap.size, 0, none⟩ 1 1 (itemCells x) (by rfl) rfl (World.news_of_block (heap_alloc_new w1 _)) (itemCells_one x) (by decide) (by unfold maxLen; omega) (by omega) (by simp; omega) (w1.heap.size + 1) (by simp) ?_; intro g1 cap1 w2 ho3 hgrow hor hlt3)
      have T := take_append (by omega) hp2 (by omega) (fun k hk => by rw [ho1, HV.out] at hk; exact (HO.out _ hk).2) rfl ho2 ho3 hgrow
      go_roundg m
      case measure => have := HM.out; omega
      case rel =>
        refine ⟨v1, t.push x, r1, T.2.1, T.1, hh2, hx.out _ hperm, ?_, ?_, by rw [ho1, HV.out]⟩
        · have := hperm.length_eq
          simp only [List.length_cons, Array.length_toList] at this
          have := HM.out
          omega
        · refine (hf.trans hf1 ?_).trans T.2.2 ?_
          · intro i hi e
            rw [HV.out] at e
            exact e
          · intro i hi e
            have := (World.ownsRow.lt ho _ e).1
            omega

end Go.Proofs.Ytgcmdoinihehcaa
