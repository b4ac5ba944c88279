/- A part of the proofs over a buffer of what comes late: contracts of the functions, each by a walk. -/
import Derived.Test.YtgcmdoinihehcaaWg
import Derived.WalkKit
import Derived.WalkLawsBesides
import Derived.WalkSpells
import Derived.Deep.QuietTactic
import Derived.BigRegion
import Derived.BigQuiet
import Derived.Lib.Hide
import Derived.Outline
import Derived.Deep.AppendLies
import Derived.Deep.RegionLaw
import Derived.Deep.RegionWith
import Derived.Deep.RegionHeld3
import Derived.Deep.LoopGhost
import Derived.Deep.DeepFit
import Derived.Laws.ResultCell
import Derived.Deep.MidRow
import Derived.StillTailTactics
namespace Go.Proofs.Ytgcmdoinihehcaa
set_option linter.unusedVariables false
open Go.RowKit Go
attribute [local go_sem] m_push m_pop m_len m_less m_swap run_assert

theorem mem_push_lt {t : Array Item} {x : Item} {m : Int} (h : ∀ y ∈ t.toList, y.t < m) (hx : x.t < m) : ∀ y ∈ (t.push x).toList, y.t < m := fun y hy => by
  rw [Array.toList_push, List.mem_append, List.mem_singleton] at hy
  rcases hy with hy | rfl
  · exact h y hy
  · exact hx

set_option maxHeartbeats 1000000 in
theorem take_any (B b : Nat) (v : Value) (s : St) (q : Array Item) (w : World) (h : IsBuf w B b v s q) :
    Calls Try.prog 16 #[.pointer (some ⟨b, 0, none⟩)] w fun e w' => ∃ v' o t r, e = .returned o ∧ QRow w' w.heap.size o t ∧ IsBuf w' B b v' s r ∧ Taken q t r ∧ (∀ y ∈ t.toList, y.t < s.mark) ∧ (∀ y ∈ r.toList, s.mark ≤ y.t) ∧ Fr (fun j => j = b ∨ v.ownBlock = some j) w w' ∧ v'.ownBlock = v.ownBlock := by
  have hol := World.ownsRow.lt h.pq.row
  have hlt := h.pq.blk.lt
  have hsm := h.small
  have hle := h.pq.le
  obtain ⟨i0, hi, hz0, hz1, hz2⟩ := info_parts info41
  go_enter Try.func16, Try.ntmps16
  go_wp2_with fail
  go_loopg [3] (q.size) (fun g ov wr => ∃ (v' : Value) (t r : Array Item), QRow wr w.heap.size ov t ∧ PQ wr B b (bufCells v' s) v' r ∧ IsHeap r r.size ∧ Taken q t r ∧ (∀ y ∈ t.toList, y.t < s.mark) ∧ r.size ≤ g ∧ Fr (fun j => j = b ∨ v.ownBlock = some j) w wr ∧ v'.ownBlock = v.ownBlock)
  case atStart => exact ⟨v, #[], q, World.ownsRow_nil _ _ _ _, h.pq, h.heap, Taken.start q, by simp, Nat.le_refl _, Fr.refl _ _, rfl⟩
  case round =>
    obtain ⟨v', t, r, ho, hp, hh, ht, htm, hg, hf, hov⟩ := hrel
    have hsz := ht.size
    have c0 := hp.cell0
    have c3 : wr.cell? ⟨b, 3, none⟩ = some (.int .i64 s.mark) := hp.blk.cell 3
    have HT := Lib.hid htm
    by_cases hr : r.size = 0
    · obtain ⟨A, c, hv⟩ := hp.row.shape
      rw [hr] at hv
      rw [hv] at c0
      have HR := Lib.hid hr
      have HS := Lib.hid hsz
      have hE : ∀ y ∈ r.toList, s.mark ≤ y.t := by
        have : r.toList = [] := List.eq_nil_of_length_eq_zero (by simpa using hr)
        rw [this]; simp
      have HE := Lib.hid hE
      clear hv hr hsz hE htm
      go_wp2_with fail
      go_quiet (fail)
      go_wp2_with fail
      go_ret
      exact ⟨v', _, t, r, rfl, ho.drewN _, ⟨hp.drewN _, hh, by rw [HR.out]; omega⟩, ht, HT.out, HE.out, hf.drewN _, hov⟩
    · obtain ⟨m, hm⟩ : ∃ m, r.size = m + 1 := ⟨r.size - 1, by omega⟩
      obtain ⟨g', c, hv, -, -⟩ := hp.row.form (by omega)
      have cx : wr.cell? ⟨g', 0, none⟩ = some (.int .i64 r[0]!.t) := by
        have hrow := hp.row
        rw [hv] at hrow
        simpa using (hrow.cells (i := 0) (by omega)).1
      have hx := Lib.hid (fun (r' : Array Item) => ht.step (r := r) (by omega) hh (r' := r'))
      have hp1 := Lib.hid (fun W hW => first_any B b (bufCells v' s) v' r m W hW hm (by omega) hh)
      have hmin := hh.min
      have hw0 := hf.size
      have hm1 : m ≤ 999 := by omega
      have ht1 : t.size ≤ 999 := by omega
      have HMin := Lib.hid hmin
      have HM := Lib.hid hm
      have HH := Lib.hid hh
      have HO := Lib.hid hol
      have HV := Lib.hid hov
      rw [hv, hm] at c0
      generalize r[0]! = x at *
      have n0 : (0 : Int) < (m : Int) + 1 := by omega
      clear hm hv hr hsz hh hol hov hmin htm
      by_cases hlt' : x.t < s.mark
      · go_wp2_with fail
        go_quiet (fail)
        go_wp2_with fail
        refine (hp1.out _ (hp.drewN _)).mono ?_
        rintro e w1 ⟨v1, r1, rfl, hp2, hh2, hperm, hf1, ho1⟩
        have ho2 : QRow w1 w.heap.size u3 t := (ho.drewN _).fr hf1 (fun k hk e => by
          have h1 := (World.ownsRow.lt ho _ hk).1
          rcases e with e | e
          · omega
          · rw [HV.out] at e
            have := (HO.out _ e).2
            omega)
        have hsz1 : wr.heap.size ≤ w1.heap.size := hf1.size
        unfold itemAgg
        go_wp2_with (at_builtin; refine wpList_append_lies _ rfl _ _ 37 rfl w.heap.size 41 i0 _ 5 40 Try.underlying37 hi hz0 hz1 hz2 rfl (by decide) u3 t.size (qCells t) (by rfl) (ho2.alloc _) ⟨w1.heap.size, 0, none⟩ 1 1 (itemCells x) (by rfl) rfl (World.news_of_block (heap_alloc_new w1 _)) (itemCells_one x) (by decide) (by unfold maxLen; omega) (by omega) (by simp; omega) (w1.heap.size + 1) (by simp) ?_; intro g1 cap1 w2 ho3 hgrow hor hlt3)
        have T := take_append (by omega) hp2 (by omega) (fun k hk => by rw [ho1, HV.out] at hk; exact (HO.out _ hk).2) rfl ho2 ho3 hgrow
        go_roundg m
        case measure => have := HM.out; omega
        case rel =>
          refine ⟨v1, t.push x, r1, T.2.1, T.1, hh2, hx.out _ hperm, mem_push_lt HT.out hlt', ?_, ?_, by rw [ho1, HV.out]⟩
          · have := hperm.length_eq
            simp only [List.length_cons, Array.length_toList] at this
            have := HM.out
            omega
          · refine ((hf.drewN _).trans hf1 ?_).trans T.2.2 ?_
            · intro i hi e
              rw [HV.out] at e
              exact e
            · intro i hi e
              have := (World.ownsRow.lt ho _ e).1
              omega
      · have hge : s.mark ≤ x.t := by omega
        have hE : ∀ y ∈ r.toList, s.mark ≤ y.t := fun y hy => by
          obtain ⟨k, hk, rfl⟩ := mem_get hy
          have := HMin.out k hk
          unfold le at this
          omega
        have HE := Lib.hid hE
        clear hE hlt'
        go_wp2_with fail
        go_quiet (fail)
        go_wp2_with fail
        go_ret
        exact ⟨v', _, t, r, rfl, ho.drewN _, ⟨hp.drewN _, HH.out, by have := HM.out; omega⟩, ht, HT.out, HE.out, hf.drewN _, HV.out⟩

end Go.Proofs.Ytgcmdoinihehcaa
