/- A part of the proofs over a buffer of what comes late: contracts of the functions, each by a walk. -/
import Derived.Test.YtgcmdoinihehcaaLa
import Derived.WalkKit
import Derived.WalkLawsBesides
import Derived.WalkSpells
import Derived.Deep.QuietTactic
import Derived.BigRegion
import Derived.BigQuiet
import Derived.Lib.Hide
import Derived.Outline
import Derived.Deep.AppendLies
import Derived.Deep.RegionLaw
import Derived.Deep.RegionWith
import Derived.Deep.RegionHeld3
import Derived.Deep.LoopGhost
import Derived.Deep.DeepFit
import Derived.Laws.ResultCell
import Derived.Deep.MidRow
import Derived.StillTailTactics
import Derived.OpenShut
namespace Go.Proofs.Ytgcmdoinihehcaa
set_option linter.unusedVariables false
open Go.RowKit Go

theorem Fr.toBelow {w w' : World} (h : Fr (fun k => w.heap.size ≤ k) w w') : Below w.heap.size w w' := h.below (Nat.le_refl _) fun _ h => h
theorem Fr.cellOld {n : Nat} {w w' : World} (h : Fr (fun k => n ≤ k) w w') {a : Addr} (ha : a.block < n) (hn : n ≤ w.heap.size) : w'.cell? a = w.cell? a := World.cell?_of_block (h.block a.block (by omega) (by omega))
theorem Fr.cellF {w w' : World} (h : Fr (fun _ => False) w w') {a : Addr} (ha : a.block < w.heap.size) : w'.cell? a = w.cell? a := World.cell?_of_block (h.block a.block ha (fun h => h))

theorem lates_long (a0 : Int) (a1 : Option Addr) (len1 cap1 : Nat) (w : World) (hl : 60 < len1) :
    Calls Try.prog 3 #[.int .u8 a0, .slice a1 len1 cap1] w fun e w' => e = .returned (.bool true) ∧ Below w.heap.size w w' := by
  go_enter Try.func3, Try.ntmps3
  go_wp2_with fail
  refine (awake_any w).mono ?_
  rintro e w1 ⟨rfl, hf⟩
  go_wp2_with fail
  refine (awake_any w1).mono ?_
  rintro e w2 ⟨rfl, hf2⟩
  go_wp2_with fail
  go_ret
  exact ⟨rfl, (hf.trans' hf2).below (Nat.le_refl _) fun _ h => h.elim⟩

set_option maxRecDepth 100000 in
set_option maxHeartbeats 2000000 in
theorem lates_walk (a0 : Int) (a1 : Option Addr) (len1 cap1 : Nat) (z1 : List Int) (w : World) (w0 : (Lit.int .u8 a0).wf = true) (w1 : IsRow .i16 w a1 len1 cap1 z1) :
    Calls Try.prog 3 #[.int .u8 a0, .slice a1 len1 cap1] w fun e w' => e = .returned (.bool true) ∧ Below w.heap.size w w' := by
  by_cases hl : 60 < len1
  · exact lates_long a0 a1 len1 cap1 w hl
  have hl' : len1 ≤ 60 := by omega
  have ha : 0 ≤ a0 ∧ a0 ≤ 255 := bounds_u8 w0
  obtain ⟨ha0, ha1⟩ := ha
  clear hl w0
  go_enter Try.func3, Try.ntmps3
  go_wp2_with fail
  refine (awake_any w).mono ?_
  rintro e wa ⟨rfl, hfa⟩
  go_wp2_with fail
  refine (new_ok a0 1000 wa ha0 (by omega) (by omega) (by omega)).mono ?_
  rintro e wb ⟨rfl, rfl⟩
  have hb0 := newBuf wa w.heap.size hfa.size a0 1000
  have hfb : Fr (fun k => w.heap.size ≤ k) w (wa.alloc (.cells (bufCells (.slice none 0 0) (newSt a0 1000)) 65)) := ((hfa.mono fun _ _ h => h.elim).alloc _)
  have hbn := hfa.size
  generalize (wa.alloc (.cells (bufCells (.slice none 0 0) (newSt a0 1000)) 65)) = wb at *
  generalize wa.heap.size = b at *
  clear hfa
  go_wp2_with fail
  go_loopw [7, 8, 9, 32] (fun hv sv lv iv wr => ∃ (k L : Nat) (high : Int) (so : Bool) (s : St) (q : Array Item) (v : Value), hv = .int .i64 high ∧ sv = .bool so ∧ lv = .int .i64 (L : Int) ∧ iv = .int .i64 (k : Int) ∧ k ≤ len1 ∧
      LRel a0 high so L k s q.size ∧ IsBuf wr w.heap.size b v s q ∧ Fr (fun k => w.heap.size ≤ k) w wr ∧ (∀ k, v.ownBlock = some k → w.heap.size ≤ k)) (fun _ _ _ iv _ => len1 - (intOf iv).toNat)
  case atStart => exact ⟨0, 0, 0, false, newSt a0 1000, #[], .slice none 0 0, rfl, rfl, rfl, rfl, Nat.zero_le _, LRel.start a0, hb0, hfb, by simp [Value.ownBlock]⟩
  case round =>
    obtain ⟨k, L, high, so, s, q, v, rfl, rfl, rfl, rfl, hk, hr, hb, hf, hv⟩ := hrel
    have hfit := hr.fit ha0 ha1 (by omega)
    have hsz := hf.size
    clear hb0 hfb
    by_cases hlt : k < len1
    · obtain ⟨xb, xo, rfl, hle, hxb, hc, hwf⟩ := w1.at_ hlt
      have ht := bounds_i16 hwf
      obtain ⟨ht0, ht1⟩ := ht
      have hc' : wr.cell? ⟨xb, xo + k, none⟩ = some (.int .i16 (z1.getD k 0)) := (hf.cellOld (by exact hxb) (Nat.le_refl _)).trans hc
      clear hc hwf w1
      generalize z1.getD k 0 = t at *
      have hlt' : (k : Int) < (len1 : Int) := by omega
      have hhb := hr.h0
      have hhb1 := hr.h1
      have hL60 : L ≤ 60 := by have := hr.sum; omega
      have hpu := Lib.hid (pushB w.heap.size b v s q t k 0 0 wr hb hfit)
      by_cases hA : so = true ∧ t < high - a0
      · obtain ⟨rfl, hA⟩ := hA
        have hcode := hr.late_ ht0 ht1 hA
        have HC := Lib.hid hcode.1
        have HR := Lib.hid hcode.2
        clear hcode hr
        go_wp2_with (go_at_call 11; refine hpu.out.mono ?_; rintro e w2 ⟨v2, q2, rfl, hp2⟩; have hF := hp2.frame (n := w.heap.size) hb.pq.le hv hsz; rw [HC.out])
        have hq2 : q2 = q := by
          have := hp2.wait
          rw [HC.out, if_neg (by decide)] at this
          exact this
        subst hq2
        go_roundw
        case rel => exact ⟨k + 1, L + 1, high, true, _, q2, v2, rfl, rfl, by go_num, by go_num, by omega, HR.out, hp2.buf, hf.trans' hF.1, hF.2⟩
        case measure => simp [intOf]; omega
      · have hcode := hr.ok_ ht0 ht1 hA (by omega)
        have HC := Lib.hid hcode.1
        cases so with
        | false =>
          have HR := Lib.hid (by simpa using hcode.2 : LRel a0 t true L (k + 1) (pushSt s q.size t) (q.size + 1))
          clear hcode hr hA
          go_wp2_with (go_at_call 11; refine hpu.out.mono ?_; rintro e w2 ⟨v2, q2, rfl, hp2⟩; have hF := hp2.frame (n := w.heap.size) hb.pq.le hv hsz; rw [HC.out])
          have hq2 : q2.size = q.size + 1 := by
            have := hp2.wait
            rw [HC.out, if_pos rfl] at this
            have := this.length_eq
            simpa using this
          have hR2 := HR.out
          rw [← hq2] at hR2
          go_roundw
          case rel => exact ⟨k + 1, L, _, true, _, q2, v2, rfl, rfl, rfl, by go_num, by omega, hR2, hp2.buf, hf.trans' hF.1, hF.2⟩
          case measure => simp [intOf]; omega
        | true =>
          have hA' : high - a0 ≤ t := Int.not_lt.1 (fun h => hA ⟨rfl, h⟩)
          by_cases hh : high < t
          · have HR := Lib.hid (by simpa [hh] using hcode.2 : LRel a0 t true L (k + 1) (pushSt s q.size t) (q.size + 1))
            clear hcode hr hA
            go_wp2_with (go_at_call 11; refine hpu.out.mono ?_; rintro e w2 ⟨v2, q2, rfl, hp2⟩; have hF := hp2.frame (n := w.heap.size) hb.pq.le hv hsz; rw [HC.out])
            have hq2 : q2.size = q.size + 1 := by
              have := hp2.wait
              rw [HC.out, if_pos rfl] at this
              have := this.length_eq
              simpa using this
            have hR2 := HR.out
            rw [← hq2] at hR2
            go_roundw
            case rel => exact ⟨k + 1, L, _, true, _, q2, v2, rfl, rfl, rfl, by go_num, by omega, hR2, hp2.buf, hf.trans' hF.1, hF.2⟩
            case measure => simp [intOf]; omega
          · have HR := Lib.hid (by simpa [hh] using hcode.2 : LRel a0 high true L (k + 1) (pushSt s q.size t) (q.size + 1))
            have hh' : t ≤ high := by omega
            clear hcode hr hA hh
            go_wp2_with (go_at_call 11; refine hpu.out.mono ?_; rintro e w2 ⟨v2, q2, rfl, hp2⟩; have hF := hp2.frame (n := w.heap.size) hb.pq.le hv hsz; rw [HC.out])
            have hq2 : q2.size = q.size + 1 := by
              have := hp2.wait
              rw [HC.out, if_pos rfl] at this
              have := this.length_eq
              simpa using this
            have hR2 := HR.out
            rw [← hq2] at hR2
            go_roundw
            case rel => exact ⟨k + 1, L, _, true, _, q2, v2, rfl, rfl, rfl, by go_num, by omega, hR2, hp2.buf, hf.trans' hF.1, hF.2⟩
            case measure => simp [intOf]; omega
    · have hkl : k = len1 := by omega
      have hm := hr.mark
      have hsum := hr.sum
      have hge : (len1 : Int) ≤ (k : Int) := by omega
      have hlate := hr.late
      have hmk := hr.marked
      have HL := Lib.hid hlate
      have hhb := hr.h0
      have hhb1 := hr.h1
      have HB := Lib.hid hb
      have e1 : (len1 : Int) - (L : Int) = (q.size : Int) := by omega
      have hLk : L ≤ 60 := by omega
      clear hkl hlate hsum
      cases so with
      | false =>
        have HK := Lib.hid hmk
        clear hmk hm hr
        go_wp2_with fail
        refine (mark_any b v s wr hb.pq.blk).mono ?_
        rw [HK.out]
        rintro e w3 ⟨rfl, nn, rfl⟩
        have hb3 : IsBuf (wr.drewN nn) w.heap.size b v s q := ⟨hb.pq.drewN nn, hb.heap, hb.small⟩
        have hf3 := hf.drewN nn
        generalize wr.drewN nn = w3 at *
        go_wp2_with fail
        refine (late_any b v s w3 hb3.pq.blk).mono ?_
        rw [HL.out]
        rintro e w4 ⟨rfl, rfl⟩
        go_wp2_with fail
        refine (blen_any _ b v s q w3 hb3).mono ?_
        rintro e w4 ⟨rfl, rfl⟩
        go_wp2_with fail
        go_ret
        exact ⟨rfl, hf3.toBelow⟩
      | true =>
        have HK := Lib.hid hmk
        have HM := Lib.hid (hm rfl)
        clear hmk hm hr
        go_wp2_with fail
        refine (mark_any b v s wr hb.pq.blk).mono ?_
        rw [HK.out, HM.out]
        rintro e w3 ⟨rfl, nn, rfl⟩
        have hb3 : IsBuf (wr.drewN nn) w.heap.size b v s q := ⟨hb.pq.drewN nn, hb.heap, hb.small⟩
        have hf3 := hf.drewN nn
        generalize wr.drewN nn = w3 at *
        go_wp2_with fail
        refine (late_any b v s w3 hb3.pq.blk).mono ?_
        rw [HL.out]
        rintro e w4 ⟨rfl, rfl⟩
        go_wp2_with fail
        refine (blen_any _ b v s q w3 hb3).mono ?_
        rintro e w4 ⟨rfl, rfl⟩
        go_wp2_with fail
        go_ret
        exact ⟨rfl, hf3.toBelow⟩

end Go.Proofs.Ytgcmdoinihehcaa
