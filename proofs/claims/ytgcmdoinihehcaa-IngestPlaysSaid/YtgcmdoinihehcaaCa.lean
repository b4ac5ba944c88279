/- A part of the proofs over a buffer of what comes late: contracts of the functions, each by a walk. -/
import Derived.Test.YtgcmdoinihehcaaWk
import Derived.Test.YtgcmdoinihehcaaAc
import Derived.Test.YtgcmdoinihehcaaBi
import Derived.Test.YtgcmdoinihehcaaMa
import Derived.WalkKit
import Derived.WalkLawsBesides
import Derived.WalkSpells
import Derived.Deep.QuietTactic
import Derived.BigRegion
import Derived.BigQuiet
import Derived.Lib.Hide
import Derived.Outline
import Derived.Deep.AppendLies
import Derived.Deep.RegionLaw
import Derived.Deep.RegionWith
import Derived.Deep.RegionHeld3
import Derived.Deep.LoopGhost
import Derived.Deep.DeepFit
import Derived.Laws.ResultCell
import Derived.Deep.MidRow
import Derived.StillTailTactics
import Derived.OpenShut
namespace Go.Proofs.Ytgcmdoinihehcaa
set_option linter.unusedVariables false
open Go.RowKit Go

theorem BI.more {lat room : Int} {k : Nat} {s : St} {q : Array Item} (h : BI lat room k s q) : BI lat room (k + 1) s q :=
  ⟨h.hlat, h.hroom, h.closed, h.num0, by have := h.num1; omega, h.late0, by have := h.late1; omega, h.empty, h.lo, h.hi⟩

theorem counts_long (v0 : Value) (hv0 : ∃ x0 x1 : Int, v0 = .agg #[.int .u8 x0, .int .u8 x1]) (a1 : Option Addr) (len1 cap1 : Nat) (w : World) (hl : 60 < len1) :
    Calls Try.prog 7 #[v0, .slice a1 len1 cap1] w fun e w' => e = .returned (.bool true) ∧ Below w.heap.size w w' := by
  obtain ⟨x0, x1, rfl⟩ := hv0
  go_enter Try.func7, Try.ntmps7
  go_wp2_with fail
  refine (awake_any _).mono ?_
  rintro e w1 ⟨rfl, hf⟩
  go_wp2_with fail
  refine (awake_any w1).mono ?_
  rintro e w2 ⟨rfl, hf2⟩
  go_wp2_with fail
  go_ret
  have h0 : Fr (fun _ => False) w (w.alloc (.cells #[.int .u8 x0, .int .u8 x1] 49)) := (Fr.refl _ w).alloc _
  exact ⟨rfl, ((h0.trans' hf).trans' hf2).below (Nat.le_refl _) fun _ h => h.elim⟩

set_option maxRecDepth 100000 in
set_option maxHeartbeats 8000000 in
theorem counts_walk (x0 x1 : Int) (a1 : Option Addr) (len1 cap1 : Nat) (z1 : List Act) (w : World) (wx0 : (Lit.int .u8 x0).wf = true) (wx1 : (Lit.int .u8 x1).wf = true) (w1 : IsActs w a1 len1 cap1 z1) :
    Calls Try.prog 7 #[.agg #[.int .u8 x0, .int .u8 x1], .slice a1 len1 cap1] w fun e w' => e = .returned (.bool true) ∧ Below w.heap.size w w' := by
  by_cases hl : 60 < len1
  · exact counts_long _ ⟨x0, x1, rfl⟩ a1 len1 cap1 w hl
  have hl' : len1 ≤ 60 := by omega
  have hx0 : 0 ≤ x0 ∧ x0 ≤ 255 := bounds_u8 wx0
  have hx1 : 0 ≤ x1 ∧ x1 ≤ 255 := bounds_u8 wx1
  obtain ⟨hx00, hx01⟩ := hx0
  obtain ⟨hx10, hx11⟩ := hx1
  clear hl wx0 wx1
  go_enter Try.func7, Try.ntmps7
  go_wp2_with fail
  refine (awake_any _).mono ?_
  rintro e wa ⟨rfl, hfa⟩
  have hblk := (Blk.new w 49 #[.int .u8 x0, .int .u8 x1]).fr hfa (fun h => h)
  have hc0 : wa.cell? ⟨w.heap.size, 0, none⟩ = some (.int .u8 x0) := hblk.cell 0
  have hc1 : wa.cell? ⟨w.heap.size, 1, none⟩ = some (.int .u8 x1) := hblk.cell 1
  have hfa0 : Fr (fun _ => False) w wa := ((Fr.refl _ w).alloc _).trans' hfa
  clear hfa hblk
  go_wp2_with fail
  have hR : 1 ≤ 1 + x1 % 9 ∧ 1 + x1 % 9 ≤ 9 := by omega
  have hA : 0 ≤ x0 % 30 ∧ x0 % 30 ≤ 29 := by omega
  generalize 1 + x1 % 9 = R at *
  generalize x0 % 30 = a0 at *
  obtain ⟨hR0, hR1⟩ := hR
  obtain ⟨ha0, ha1⟩ := hA
  refine (new_ok a0 R wa ha0 (by omega) (by omega) (by omega)).mono ?_
  rintro e wb ⟨rfl, rfl⟩
  have hb0 := newBuf wa w.heap.size hfa0.size a0 R
  have hfb : Fr (fun k => w.heap.size ≤ k) w (wa.alloc (.cells (bufCells (.slice none 0 0) (newSt a0 R)) 65)) := ((hfa0.mono fun _ _ h => h.elim).alloc _)
  have hbn := hfa0.size
  generalize (wa.alloc (.cells (bufCells (.slice none 0 0) (newSt a0 R)) 65)) = wb at *
  generalize wa.heap.size = b at *
  clear hfa0 hc0 hc1
  go_wp2_with fail
  go_loopw [8, 9, 10, 37] (fun inv ov lv iv wr => ∃ (k : Nat) (s : St) (q : Array Item) (v : Value) (I O L : Nat), inv = .int .i64 (I : Int) ∧ ov = .int .i64 (O : Int) ∧ lv = .int .i64 (L : Int) ∧ iv = .int .i64 (k : Int) ∧ k ≤ len1 ∧
      BI a0 R k s q ∧ Hid (s.late = (L : Int)) ∧ O + q.size = I ∧ I ≤ k ∧ (q.size : Int) ≤ R ∧ IsBuf wr w.heap.size b v s q ∧ Fr (fun k => w.heap.size ≤ k) w wr ∧ (∀ k, v.ownBlock = some k → w.heap.size ≤ k)) (fun _ _ _ iv _ => len1 - (intOf iv).toNat)
  case atStart => exact ⟨0, newSt a0 R, #[], .slice none 0 0, 0, 0, 0, rfl, rfl, rfl, rfl, Nat.zero_le _, BI.start ha0, Lib.hid rfl, rfl, Nat.le_refl _, by show (0 : Int) ≤ R; omega, hb0, hfb, by simp [Value.ownBlock]⟩
  case round =>
    obtain ⟨k, s, q, v, I, O, L, rfl, rfl, rfl, rfl, hk, hr, HL, hio, hIk, hqr, hb, hf, hv⟩ := hrel
    have hfit := hr.fit ha0 (by omega) (by omega) (by omega)
    have hsz := hf.size
    have hroom := hr.hroom
    have hlb := hr.late1
    rw [HL.out] at hlb
    clear hb0 hfb
    by_cases hlt : k < len1
    · obtain ⟨xb, xo, rfl, hle, hxb, hc⟩ := w1.at_ hlt
      have hc' := hc.keep (hf.block xb hxb (by omega))
      clear hc w1
      generalize z1.getD k default = x at *
      obtain ⟨c0, c1, c2, c3, c4, wk, wt⟩ := hc'
      have hlt' : (k : Int) < (len1 : Int) := by omega
      obtain ⟨wk0, wk1⟩ := wk
      have hL60 : L ≤ 60 := by omega
      have hI60 : I ≤ 60 := by omega
      have HRM := Lib.hid hroom
      clear hroom
      by_cases hk4 : x.kind % 8 = 4
      · have hb4 : (x.kind % 8 == 4) = true := by simp [hk4]
        clear hk4
        go_wp2_with fail
        refine (tick_any w.heap.size b v s q x.time _ (hb.frF ((Fr.refl _ _).alloc _)) hfit).mono ?_
        rintro e w2 ⟨rfl, hb2, hf2'⟩
        have hbi2 := hr.tick (t := x.time) ha0
        have hlate2 : (tickSt s x.time).late = (L : Int) := by
          rcases tickSt_cases s x.time with ⟨_, e⟩ | ⟨_, _, _, _, e⟩
          · rw [e]; exact HL.out
          · rw [e, seeSt_late]; exact HL.out
        have hf02 : Fr (fun k => w.heap.size ≤ k) w w2 := (hf.alloc _).trans' (hf2'.mono (fun _ _ e => by omega))
        obtain ⟨v2, hv2e⟩ : ∃ v2, v2 = v := ⟨_, rfl⟩
        obtain ⟨q2, hq2e⟩ : ∃ q2, q2 = q := ⟨_, rfl⟩
        have hv2 : ∀ k, v2.ownBlock = some k → w.heap.size ≤ k := by rw [hv2e]; exact hv
        have e1 : (I : Int) - (O : Int) = (q2.size : Int) := by rw [hq2e]; omega
        have hsz2 : (q2.size : Int) ≤ R := by rw [hq2e]; exact hqr
        have hio2 : O + q2.size = I := by rw [hq2e]; exact hio
        rw [← hv2e, ← hq2e] at hb2
        rw [← hq2e] at hbi2
        clear hv2e hq2e hf2'
        have HL2 := Lib.hid hlate2
        have HL2r := HL2
        have HCL := Lib.hid hbi2.closed
        clear hlate2
        generalize tickSt s x.time = s2 at *
        generalize tickCode s x.time = code at *
        clear hb hr hfit hf hv
        go_wp2_with (first | (go_at_call 14; refine (blen_any _ b v2 s2 q2 _ hb2).mono ?_; rintro e w' ⟨rfl, rfl⟩) | (go_at_call 13; refine (late_any b v2 s2 _ hb2.pq.blk).mono ?_; rw [HL2.out]; rintro e w' ⟨rfl, rfl⟩) | (go_at_call 18; refine (closed_any b v2 s2 _ hb2.pq.blk).mono ?_; rw [HCL.out]; rintro e w' ⟨rfl, rfl⟩))
        go_roundw
        case rel => exact ⟨k + 1, s2, q2, v2, I, O, L, rfl, rfl, rfl, by go_num, by omega, hbi2, HL2r.out, by omega, by omega, hsz2, hb2, hf02, hv2⟩
        case measure => simp [intOf]; omega
      · have hb4 : (x.kind % 8 == 4) = false := by simp [hk4]
        by_cases hk5 : x.kind % 8 = 5
        · have hb5 : (x.kind % 8 == 5) = true := by simp [hk5]
          clear hk4 hk5
          go_wp2_with fail
          refine (take_any w.heap.size b v s q _ (hb.frF ((Fr.refl _ _).alloc _))).mono ?_
          rintro e w2 ⟨v2, o, t, q2, rfl, ho, hb2, ht, htm, hrm, hf4, hv4⟩
          have hbi2 := (hr.take ht).more
          have hts := ht.size
          obtain ⟨s2, hs2e⟩ : ∃ s2, s2 = s := ⟨_, rfl⟩
          rw [← hs2e] at hb2 hbi2
          have HL2 : Hid (s2.late = (L : Int)) := Lib.hid (by rw [hs2e]; exact HL.out)
          have HL2r := HL2
          have HCL := Lib.hid hbi2.closed
          have hf02 : Fr (fun k => w.heap.size ≤ k) w w2 := (hf.alloc _).trans hf4 (fun i hi e => by
            rcases e with e | e
            · omega
            · exact hv _ e)
          have hv2 : ∀ k, v2.ownBlock = some k → w.heap.size ≤ k := fun k hk => hv k (by rw [← hv4]; exact hk)
          have e1 : (I : Int) - ((O : Int) + (t.size : Int)) = (q2.size : Int) := by omega
          have hsz2 : (q2.size : Int) ≤ R := by omega
          have hO2 : O + t.size ≤ 60 := by omega
          obtain ⟨A, c, hov⟩ := ho.shape
          rw [hov]
          clear hov ho hb hr hfit hf hv hs2e htm hrm hf4 hv4 ht hts
          go_wp2_with (first | (go_at_call 14; refine (blen_any _ b v2 s2 q2 _ hb2).mono ?_; rintro e w' ⟨rfl, rfl⟩) | (go_at_call 13; refine (late_any b v2 s2 _ hb2.pq.blk).mono ?_; rw [HL2.out]; rintro e w' ⟨rfl, rfl⟩) | (go_at_call 18; refine (closed_any b v2 s2 _ hb2.pq.blk).mono ?_; rw [HCL.out]; rintro e w' ⟨rfl, rfl⟩))
          go_roundw
          case rel => exact ⟨k + 1, s2, q2, v2, I, O + t.size, L, rfl, by go_num, rfl, by go_num, by omega, hbi2, HL2r.out, by omega, by omega, hsz2, hb2, hf02, hv2⟩
          case measure => simp [intOf]; omega
        · have hb5 : (x.kind % 8 == 5) = false := by simp [hk5]
          by_cases hk6 : x.kind % 8 = 6
          · have hb6 : (x.kind % 8 == 6) = true := by simp [hk6]
            clear hk4 hk5 hk6
            go_wp2_with fail
            refine (take_any w.heap.size b v s q _ (hb.frF ((Fr.refl _ _).alloc _))).mono ?_
            rintro e w2 ⟨v2, o, t, q2, rfl, ho, hb2, ht, htm, hrm, hf4, hv4⟩
            have hbi2 := (hr.take ht).more
            have hts := ht.size
            obtain ⟨s2, hs2e⟩ : ∃ s2, s2 = s := ⟨_, rfl⟩
            rw [← hs2e] at hb2 hbi2
            have HL2 : Hid (s2.late = (L : Int)) := Lib.hid (by rw [hs2e]; exact HL.out)
            have HL2r := HL2
            have HCL := Lib.hid hbi2.closed
            have hf02 : Fr (fun k => w.heap.size ≤ k) w w2 := (hf.alloc _).trans hf4 (fun i hi e => by
              rcases e with e | e
              · omega
              · exact hv _ e)
            have hv2 : ∀ k, v2.ownBlock = some k → w.heap.size ≤ k := fun k hk => hv k (by rw [← hv4]; exact hk)
            have e1 : (I : Int) - ((O : Int) + (t.size : Int)) = (q2.size : Int) := by omega
            have hsz2 : (q2.size : Int) ≤ R := by omega
            have hO2 : O + t.size ≤ 60 := by omega
            obtain ⟨A, c, hov⟩ := ho.shape
            rw [hov]
            clear hov ho hb hr hfit hf hv hs2e htm hrm hf4 hv4 ht hts
            go_wp2_with (first | (go_at_call 14; refine (blen_any _ b v2 s2 q2 _ hb2).mono ?_; rintro e w' ⟨rfl, rfl⟩) | (go_at_call 13; refine (late_any b v2 s2 _ hb2.pq.blk).mono ?_; rw [HL2.out]; rintro e w' ⟨rfl, rfl⟩) | (go_at_call 18; refine (closed_any b v2 s2 _ hb2.pq.blk).mono ?_; rw [HCL.out]; rintro e w' ⟨rfl, rfl⟩))
            go_roundw
            case rel => exact ⟨k + 1, s2, q2, v2, I, O + t.size, L, rfl, by go_num, rfl, by go_num, by omega, hbi2, HL2r.out, by omega, by omega, hsz2, hb2, hf02, hv2⟩
            case measure => simp [intOf]; omega
          · have hb6 : (x.kind % 8 == 6) = false := by simp [hk6]
            clear hk4 hk5 hk6
            have hcc := code_cases s q.size x.time
            have hpc := pushSt_cases s q.size x.time
            have hbp := pushB w.heap.size b v s q x.time x.k0 x.k1 x.k2 _ (hb.frF ((Fr.refl (fun _ => False) wr).alloc (.cells #[.int .u8 x.kind, .int .i64 x.time, .int .i64 x.k0, .int .i64 x.k1, .int .i64 x.k2] 45))) hfit
            have HBP := Lib.hid hbp
            clear hbp
            rcases hpc with ⟨hne0, hne7, hst⟩ | ⟨hc7, _, _, hst⟩ | ⟨hc0, _, _, _, hlt1, hst⟩
            · have HST := Lib.hid hst
              clear hst
              rcases hcc with ⟨h, hx⟩ | ⟨h, _⟩ | ⟨h, _⟩ | ⟨h, _, hfull⟩ | ⟨h, _⟩
              · rw [hr.closed] at hx; cases hx
              · have HC := Lib.hid h
                clear h hne0 hne7
                go_wp2_with fail
                refine HBP.out.mono ?_
                rw [HC.out]
                rintro e w2 ⟨v2, q2, rfl, hp2⟩
                have hq2e : q2 = q := by
                  have := hp2.wait
                  rw [HC.out, if_neg (by decide)] at this
                  exact this
                have hq2 : q2.size = q.size := by rw [hq2e]
                clear hq2e
                have hlate2 : (pushSt s q.size x.time).late = (L : Int) := by rw [HST.out]; exact HL.out
                have e1 : (I : Int) - (O : Int) = (q2.size : Int) := by omega
                have hbi2 := hr.push (t := x.time) (q' := q2) ha0 (fun hc => by have := hp2.wait; rw [if_neg hc] at this; exact this)
                have hsz2 : (q2.size : Int) ≤ R := by omega
                have hb2 := hp2.buf
                have hF := hp2.frame (n := w.heap.size) hb.pq.le hv (by simp; omega)
                have hf02 : Fr (fun k => w.heap.size ≤ k) w w2 := (hf.alloc _).trans' hF.1
                have hv2 := hF.2
                have HL2 := Lib.hid hlate2
                have HL2r : Hid ((pushSt s q.size x.time).late = ((L : Nat) : Int)) := Lib.hid (by rw [hlate2])
                have HCL := Lib.hid hbi2.closed
                clear hlate2 hp2 hF
                have hcode := HC.out
                clear hcode
                generalize pushSt s q.size x.time = s2 at *
                clear hb hr hfit hf hv HBP HC HST
                go_wp2_with (first | (go_at_call 14; refine (blen_any _ b v2 s2 q2 _ hb2).mono ?_; rintro e w' ⟨rfl, rfl⟩) | (go_at_call 13; refine (late_any b v2 s2 _ hb2.pq.blk).mono ?_; rw [HL2.out]; rintro e w' ⟨rfl, rfl⟩) | (go_at_call 18; refine (closed_any b v2 s2 _ hb2.pq.blk).mono ?_; rw [HCL.out]; rintro e w' ⟨rfl, rfl⟩))
                go_roundw
                case rel => exact ⟨k + 1, s2, q2, v2, I, O, L, rfl, rfl, rfl, by go_num, by omega, hbi2, HL2r.out, by omega, by omega, hsz2, hb2, hf02, hv2⟩
                case measure => simp [intOf]; omega
              · exact absurd h hne7
              · have HC := Lib.hid h
                rw [HRM.out] at hfull
                clear h hne0 hne7
                go_wp2_with fail
                refine HBP.out.mono ?_
                rw [HC.out]
                rintro e w2 ⟨v2, q2, rfl, hp2⟩
                have hq2e : q2 = q := by
                  have := hp2.wait
                  rw [HC.out, if_neg (by decide)] at this
                  exact this
                have hq2 : q2.size = q.size := by rw [hq2e]
                clear hq2e
                have hlate2 : (pushSt s q.size x.time).late = (L : Int) := by rw [HST.out]; exact HL.out
                have e1 : (I : Int) - (O : Int) = (q2.size : Int) := by omega
                have hbi2 := hr.push (t := x.time) (q' := q2) ha0 (fun hc => by have := hp2.wait; rw [if_neg hc] at this; exact this)
                have hsz2 : (q2.size : Int) ≤ R := by omega
                have hb2 := hp2.buf
                have hF := hp2.frame (n := w.heap.size) hb.pq.le hv (by simp; omega)
                have hf02 : Fr (fun k => w.heap.size ≤ k) w w2 := (hf.alloc _).trans' hF.1
                have hv2 := hF.2
                have HL2 := Lib.hid hlate2
                have HL2r : Hid ((pushSt s q.size x.time).late = ((L : Nat) : Int)) := Lib.hid (by rw [hlate2])
                have HCL := Lib.hid hbi2.closed
                clear hlate2 hp2 hF
                have hcode := HC.out
                clear hcode
                generalize pushSt s q.size x.time = s2 at *
                clear hb hr hfit hf hv HBP HC HST
                have hfull : (q2.size : Int) = R := by omega
                have hfb : ((q2.size : Int) != R) = false := by simp [hfull]
                clear hfull
                go_wp2_with (first | (go_at_call 14; refine (blen_any _ b v2 s2 q2 _ hb2).mono ?_; rintro e w' ⟨rfl, rfl⟩) | (go_at_call 13; refine (late_any b v2 s2 _ hb2.pq.blk).mono ?_; rw [HL2.out]; rintro e w' ⟨rfl, rfl⟩) | (go_at_call 18; refine (closed_any b v2 s2 _ hb2.pq.blk).mono ?_; rw [HCL.out]; rintro e w' ⟨rfl, rfl⟩))
                go_roundw
                case rel => exact ⟨k + 1, s2, q2, v2, I, O, L, rfl, rfl, rfl, by go_num, by omega, hbi2, HL2r.out, by omega, by omega, hsz2, hb2, hf02, hv2⟩
                case measure => simp [intOf]; omega
              · exact absurd h hne0
            · have HST := Lib.hid hst
              have HC := Lib.hid hc7
              clear hst hc7 hcc
              go_wp2_with fail
              refine HBP.out.mono ?_
              rw [HC.out]
              rintro e w2 ⟨v2, q2, rfl, hp2⟩
              have hq2e : q2 = q := by
                have := hp2.wait
                rw [HC.out, if_neg (by decide)] at this
                exact this
              have hq2 : q2.size = q.size := by rw [hq2e]
              clear hq2e
              have hlate2 : (pushSt s q.size x.time).late = (L : Int) + 1 := by rw [HST.out]; show s.late + 1 = _; rw [HL.out]
              have e1 : (I : Int) - (O : Int) = (q2.size : Int) := by omega
              have hbi2 := hr.push (t := x.time) (q' := q2) ha0 (fun hc => by have := hp2.wait; rw [if_neg hc] at this; exact this)
              have hsz2 : (q2.size : Int) ≤ R := by omega
              have hb2 := hp2.buf
              have hF := hp2.frame (n := w.heap.size) hb.pq.le hv (by simp; omega)
              have hf02 : Fr (fun k => w.heap.size ≤ k) w w2 := (hf.alloc _).trans' hF.1
              have hv2 := hF.2
              have HL2 := Lib.hid hlate2
              have HL2r : Hid ((pushSt s q.size x.time).late = ((L + 1 : Nat) : Int)) := Lib.hid (by rw [hlate2]; rfl)
              have HCL := Lib.hid hbi2.closed
              clear hlate2 hp2 hF
              have hcode := HC.out
              clear hcode
              generalize pushSt s q.size x.time = s2 at *
              clear hb hr hfit hf hv HBP HC HST
              go_wp2_with (first | (go_at_call 14; refine (blen_any _ b v2 s2 q2 _ hb2).mono ?_; rintro e w' ⟨rfl, rfl⟩) | (go_at_call 13; refine (late_any b v2 s2 _ hb2.pq.blk).mono ?_; rw [HL2.out]; rintro e w' ⟨rfl, rfl⟩) | (go_at_call 18; refine (closed_any b v2 s2 _ hb2.pq.blk).mono ?_; rw [HCL.out]; rintro e w' ⟨rfl, rfl⟩))
              go_roundw
              case rel => exact ⟨k + 1, s2, q2, v2, I, O, L + 1, rfl, rfl, by go_num, by go_num, by omega, hbi2, HL2r.out, by omega, by omega, hsz2, hb2, hf02, hv2⟩
              case measure => simp [intOf]; omega
            · have HST := Lib.hid hst
              have HC := Lib.hid hc0
              rw [HRM.out] at hlt1
              clear hst hc0 hcc
              go_wp2_with fail
              refine HBP.out.mono ?_
              rw [HC.out]
              rintro e w2 ⟨v2, q2, rfl, hp2⟩
              have hq2 : q2.size = q.size + 1 := by
                have := hp2.wait
                rw [HC.out, if_pos rfl] at this
                have := this.length_eq
                simpa using this
              have hlate2 : (pushSt s q.size x.time).late = (L : Int) := by rw [HST.out, seeSt_late]; exact HL.out
              have e1 : (I : Int) + 1 - (O : Int) = (q2.size : Int) := by omega
              have hbi2 := hr.push (t := x.time) (q' := q2) ha0 (fun hc => by have := hp2.wait; rw [if_neg hc] at this; exact this)
              have hsz2 : (q2.size : Int) ≤ R := by omega
              have hb2 := hp2.buf
              have hF := hp2.frame (n := w.heap.size) hb.pq.le hv (by simp; omega)
              have hf02 : Fr (fun k => w.heap.size ≤ k) w w2 := (hf.alloc _).trans' hF.1
              have hv2 := hF.2
              have HL2 := Lib.hid hlate2
              have HL2r : Hid ((pushSt s q.size x.time).late = ((L : Nat) : Int)) := Lib.hid (by rw [hlate2])
              have HCL := Lib.hid hbi2.closed
              clear hlate2 hp2 hF
              have hcode := HC.out
              clear hcode
              generalize pushSt s q.size x.time = s2 at *
              clear hb hr hfit hf hv HBP HC HST
              go_wp2_with (first | (go_at_call 14; refine (blen_any _ b v2 s2 q2 _ hb2).mono ?_; rintro e w' ⟨rfl, rfl⟩) | (go_at_call 13; refine (late_any b v2 s2 _ hb2.pq.blk).mono ?_; rw [HL2.out]; rintro e w' ⟨rfl, rfl⟩) | (go_at_call 18; refine (closed_any b v2 s2 _ hb2.pq.blk).mono ?_; rw [HCL.out]; rintro e w' ⟨rfl, rfl⟩))
              go_roundw
              case rel => exact ⟨k + 1, s2, q2, v2, I + 1, O, L, by go_num, rfl, rfl, by go_num, by omega, hbi2, HL2r.out, by omega, by omega, hsz2, hb2, hf02, hv2⟩
              case measure => simp [intOf]; omega
    · have hge : (len1 : Int) ≤ (k : Int) := by omega
      have HCL := Lib.hid hr.closed
      have e1 : (I : Int) - (O : Int) = (q.size : Int) := by omega
      clear w1 hfit hr HL hroom hlb
      go_wp2_with fail
      refine (flush_any w.heap.size b v s q wr hb).mono ?_
      rintro e w4 ⟨v4, o, t, r, rfl, ho, hb4, ht, hr0, hf4, hv4⟩
      have hf04 : Fr (fun k => w.heap.size ≤ k) w w4 := hf.trans hf4 (fun i hi e => by
        rcases e with e | e
        · omega
        · exact hv _ e)
      have hv04 : ∀ k, v4.ownBlock = some k → w.heap.size ≤ k := fun k hk => hv k (by rw [← hv4]; exact hk)
      have hts := ht.size
      have hts2 : t.size = q.size := by omega
      obtain ⟨A, c, hov⟩ := ho.shape
      rw [hts2] at hov
      have HR0 := Lib.hid hr0
      clear hb hf hf4 hv hv4 ho ht hts hr0 hts2
      rw [hov]
      clear hov
      go_wp2_with fail
      refine (closed_any b v4 _ _ hb4.pq.blk).mono ?_
      rintro e w5 ⟨rfl, rfl⟩
      go_wp2_with fail
      refine (flush_any w.heap.size b v4 _ r w4 hb4).mono ?_
      rintro e w5 ⟨v5, o5, t5, r5, rfl, ho5, hb5, ht5, hr05, hf5, hv5⟩
      have hts5 : t5.size = 0 := by have := ht5.size; have := HR0.out; omega
      obtain ⟨A5, c5, hov5⟩ := ho5.shape
      rw [hts5] at hov5
      have hf05 : Fr (fun k => w.heap.size ≤ k) w w5 := hf04.trans hf5 (fun i hi e => by
        rcases e with e | e
        · omega
        · exact hv04 _ e)
      clear hb4 hf5 hv5 ho5 ht5 hts5
      rw [hov5]
      clear hov5
      go_wp2_with fail
      go_ret
      exact ⟨rfl, hf05.toBelow⟩

end Go.Proofs.Ytgcmdoinihehcaa
