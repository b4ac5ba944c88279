/- The play of the two buffers, walked. -/
import Derived.Test.YtgcmdoinihehcaaWk
import Derived.Test.YtgcmdoinihehcaaAc
import Derived.Test.YtgcmdoinihehcaaPn
import Derived.Test.YtgcmdoinihehcaaPr
import Derived.Test.YtgcmdoinihehcaaTa
import Derived.Test.YtgcmdoinihehcaaTk
import Derived.Test.YtgcmdoinihehcaaPu
import Derived.Test.YtgcmdoinihehcaaPt
import Derived.Test.YtgcmdoinihehcaaPs
import Derived.Test.YtgcmdoinihehcaaPi
import Derived.Test.YtgcmdoinihehcaaPv
import Derived.Deep.CutBlock
import Derived.Deep.RegionLawGrows
import Derived.Deep.Cut
import Derived.Deep.CutRange
import Derived.WalkKit
import Derived.WalkLawsBesides
import Derived.WalkSpells
import Derived.Deep.QuietTactic
import Derived.BigRegion
import Derived.BigQuiet
import Derived.Lib.Hide
import Derived.Outline
import Derived.Deep.AppendLies
import Derived.Deep.RegionLaw
import Derived.Deep.RegionWith
import Derived.Deep.RegionHeld3
import Derived.Deep.LoopGhost
import Derived.Deep.DeepFit
import Derived.Laws.ResultCell
import Derived.Deep.MidRow
import Derived.StillTailTactics
import Derived.OpenShut
namespace Go.Proofs.Ytgcmdoinihehcaa
set_option linter.unusedVariables false
open Go.RowKit Go


theorem plays_long (v0 : Value) (hv0 : ∃ x0 x1 : Int, v0 = .agg #[.int .i64 x0, .int .i64 x1]) (a1 : Option Addr) (len1 cap1 : Nat) (w : World) (hl : 60 < len1) :
    Calls Try.prog 8 #[v0, .slice a1 len1 cap1] w fun e w' => e = .returned (.bool true) ∧ Below w.heap.size w w' := by
  obtain ⟨x0, x1, rfl⟩ := hv0
  go_enter Try.func8, Try.ntmps8
  go_wp2_with fail
  refine (awake_any _).mono ?_
  rintro e w1 ⟨rfl, hf⟩
  go_wp2_with fail
  refine (awake_any w1).mono ?_
  rintro e w2 ⟨rfl, hf2⟩
  go_wp2_with fail
  go_ret
  have h0 : Fr (fun _ => False) w (w.alloc (.cells #[.int .i64 x0, .int .i64 x1] 51)) := (Fr.refl _ w).alloc _
  exact ⟨rfl, ((h0.trans' hf).trans' hf2).below (Nat.le_refl _) fun _ h => h.elim⟩

set_option maxRecDepth 100000 in
set_option maxHeartbeats 8000000 in
theorem plays_bad (x0 x1 : Int) (a1 : Option Addr) (len1 cap1 : Nat) (w : World) (hl : len1 ≤ 60) (h : x0 < 0 ∨ 1152921504606846976 < x0 ∨ x1 < 1 ∨ 1000 < x1) :
    Calls Try.prog 8 #[.agg #[.int .i64 x0, .int .i64 x1], .slice a1 len1 cap1] w fun e w' => e = .returned (.bool true) ∧ Below w.heap.size w w' := by
  have HN := Lib.hid (fun wa => new_bad x0 x1 wa h)
  by_cases h1 : x0 < 0
  · have h1' : decide (x0 < 0) = true := decide_eq_true h1
    clear h
    go_enter Try.func8, Try.ntmps8
    go_wp2_with fail
    refine (awake_any _).mono ?_
    rintro e wa ⟨rfl, hfa⟩
    have hblk := (Blk.new w 51 #[.int .i64 x0, .int .i64 x1]).fr hfa (fun h => h)
    have hc0 : wa.cell? ⟨w.heap.size, 0, none⟩ = some (.int .i64 x0) := hblk.cell 0
    have hc1 : wa.cell? ⟨w.heap.size, 1, none⟩ = some (.int .i64 x1) := hblk.cell 1
    have hfa0 : Fr (fun _ => False) w wa := ((Fr.refl _ w).alloc _).trans' hfa
    clear hfa hblk
    go_wp2_with fail
    refine (HN.out wa).mono ?_
    rintro e wb ⟨rfl, rfl⟩
    go_wp2_with fail
    go_ret
    exact ⟨rfl, hfa0.below (Nat.le_refl _) fun _ h => h.elim⟩
  · have h1' : decide (x0 < 0) = false := decide_eq_false h1
    by_cases h2 : 1152921504606846976 < x0
    · have h2' : decide (1152921504606846976 < x0) = true := decide_eq_true h2
      clear h h1
      go_enter Try.func8, Try.ntmps8
      go_wp2_with fail
      refine (awake_any _).mono ?_
      rintro e wa ⟨rfl, hfa⟩
      have hblk := (Blk.new w 51 #[.int .i64 x0, .int .i64 x1]).fr hfa (fun h => h)
      have hc0 : wa.cell? ⟨w.heap.size, 0, none⟩ = some (.int .i64 x0) := hblk.cell 0
      have hc1 : wa.cell? ⟨w.heap.size, 1, none⟩ = some (.int .i64 x1) := hblk.cell 1
      have hfa0 : Fr (fun _ => False) w wa := ((Fr.refl _ w).alloc _).trans' hfa
      clear hfa hblk
      go_wp2_with fail
      refine (HN.out wa).mono ?_
      rintro e wb ⟨rfl, rfl⟩
      go_wp2_with fail
      go_ret
      exact ⟨rfl, hfa0.below (Nat.le_refl _) fun _ h => h.elim⟩
    · have h2' : decide (1152921504606846976 < x0) = false := decide_eq_false h2
      by_cases h3 : x1 < 1
      · have h3' : decide (x1 < 1) = true := decide_eq_true h3
        clear h h1 h2
        go_enter Try.func8, Try.ntmps8
        go_wp2_with fail
        refine (awake_any _).mono ?_
        rintro e wa ⟨rfl, hfa⟩
        have hblk := (Blk.new w 51 #[.int .i64 x0, .int .i64 x1]).fr hfa (fun h => h)
        have hc0 : wa.cell? ⟨w.heap.size, 0, none⟩ = some (.int .i64 x0) := hblk.cell 0
        have hc1 : wa.cell? ⟨w.heap.size, 1, none⟩ = some (.int .i64 x1) := hblk.cell 1
        have hfa0 : Fr (fun _ => False) w wa := ((Fr.refl _ w).alloc _).trans' hfa
        clear hfa hblk
        go_wp2_with fail
        refine (HN.out wa).mono ?_
        rintro e wb ⟨rfl, rfl⟩
        go_wp2_with fail
        go_ret
        exact ⟨rfl, hfa0.below (Nat.le_refl _) fun _ h => h.elim⟩
      · have h3' : decide (x1 < 1) = false := decide_eq_false h3
        have h4 : 1000 < x1 := by omega
        have h4' : decide (1000 < x1) = true := decide_eq_true h4
        clear h h1 h2 h3
        go_enter Try.func8, Try.ntmps8
        go_wp2_with fail
        refine (awake_any _).mono ?_
        rintro e wa ⟨rfl, hfa⟩
        have hblk := (Blk.new w 51 #[.int .i64 x0, .int .i64 x1]).fr hfa (fun h => h)
        have hc0 : wa.cell? ⟨w.heap.size, 0, none⟩ = some (.int .i64 x0) := hblk.cell 0
        have hc1 : wa.cell? ⟨w.heap.size, 1, none⟩ = some (.int .i64 x1) := hblk.cell 1
        have hfa0 : Fr (fun _ => False) w wa := ((Fr.refl _ w).alloc _).trans' hfa
        clear hfa hblk
        go_wp2_with fail
        refine (HN.out wa).mono ?_
        rintro e wb ⟨rfl, rfl⟩
        go_wp2_with fail
        go_ret
        exact ⟨rfl, hfa0.below (Nat.le_refl _) fun _ h => h.elim⟩

set_option maxRecDepth 100000 in
set_option maxHeartbeats 16000000 in
theorem plays_walk (x0 x1 : Int) (a1 : Option Addr) (len1 cap1 : Nat) (z1 : List Act) (w : World) (w1 : IsActs w a1 len1 cap1 z1) :
    Calls Try.prog 8 #[.agg #[.int .i64 x0, .int .i64 x1], .slice a1 len1 cap1] w fun e w' => e = .returned (.bool true) ∧ Below w.heap.size w w' := by
  by_cases hl : 60 < len1
  · exact plays_long _ ⟨x0, x1, rfl⟩ a1 len1 cap1 w hl
  have hl' : len1 ≤ 60 := by omega
  by_cases hbad : x0 < 0 ∨ 1152921504606846976 < x0 ∨ x1 < 1 ∨ 1000 < x1
  · exact plays_bad x0 x1 a1 len1 cap1 w hl' hbad
  obtain ⟨h0, h1, h2, h3⟩ : 0 ≤ x0 ∧ x0 ≤ 1152921504606846976 ∧ 1 ≤ x1 ∧ x1 ≤ 1000 := by omega
  have h0' : decide (x0 < 0) = false := decide_eq_false (by omega)
  have h1' : decide (1152921504606846976 < x0) = false := decide_eq_false (by omega)
  have h2' : decide (x1 < 1) = false := decide_eq_false (by omega)
  have h3' : decide (1000 < x1) = false := decide_eq_false (by omega)
  clear hl hbad
  go_enter Try.func8, Try.ntmps8
  go_wp2_with fail
  refine (awake_any _).mono ?_
  rintro e wa ⟨rfl, hfa⟩
  have hblk := (Blk.new w 51 #[.int .i64 x0, .int .i64 x1]).fr hfa (fun h => h)
  have hfa0 : Fr (fun _ => False) w wa := ((Fr.refl _ w).alloc _).trans' hfa
  have hc0 : wa.cell? ⟨w.heap.size, 0, none⟩ = some (.int .i64 x0) := hblk.cell 0
  have hc1 : wa.cell? ⟨w.heap.size, 1, none⟩ = some (.int .i64 x1) := hblk.cell 1
  clear hfa
  go_wp2_with fail
  refine (new_ok x0 x1 wa h0 h1 h2 h3).mono ?_
  rintro e wb ⟨rfl, rfl⟩
  have hb0 := newBuf wa w.heap.size hfa0.size x0 x1
  have hblk2 := hblk.alloc (.cells (bufCells (.slice none 0 0) (newSt x0 x1)) 65)
  have hfb : Fr (fun k => w.heap.size ≤ k) w (wa.alloc (.cells (bufCells (.slice none 0 0) (newSt x0 x1)) 65)) := ((hfa0.mono fun _ _ h => h.elim).alloc _)
  have hbn := hfa0.size
  generalize (wa.alloc (.cells (bufCells (.slice none 0 0) (newSt x0 x1)) 65)) = wb at *
  generalize wa.heap.size = b at *
  clear hfa0 hc0 hc1 hblk
  have hc0 : wb.cell? ⟨w.heap.size, 0, none⟩ = some (.int .i64 x0) := hblk2.cell 0
  have hc1 : wb.cell? ⟨w.heap.size, 1, none⟩ = some (.int .i64 x1) := hblk2.cell 1
  have hszb := hfb.size
  have HB0 := Lib.hid hb0
  have HFB := Lib.hid hfb
  clear hb0 hfb hblk2
  go_upto_region 9 with (fail)
  have hPI : PI w (wb.alloc (.cells (bCells x0 x1 (.slice none 0 0) (.slice none 0 0) (.slice none 0 0) 0 0 false) 54)) b wb.heap.size x0 x1 0 (newSt x0 x1) #[] (.slice none 0 0) ⟨x0, x1, [], [], [], 0, 0, false⟩ (.slice none 0 0) (.slice none 0 0) (.slice none 0 0) :=
    ⟨RP.start x0 x1, rfl, rfl, HB0.out.frF ((Fr.refl _ _).alloc _), Blk.new _ _ _, ⟨World.ownsRow_nil _ _ _ _, World.ownsRow_nil _ _ _ _, World.ownsRow_nil _ _ _ _⟩, HFB.out.alloc _, (fun j hj => by cases hj), hszb⟩
  generalize (wb.alloc (.cells (bCells x0 x1 (.slice none 0 0) (.slice none 0 0) (.slice none 0 0) 0 0 false) 54)) = wc at *
  generalize wb.heap.size = mb at *
  have HPI := Lib.hid hPI
  clear hPI hc0 hc1 HB0 HFB
  go_wp2_with fail
  go_loopw [68] (fun iv wr => ∃ (k : Nat) (s : St) (q : Array Item) (v : Value) (r : RB) (vw vs vc : Value), iv = .int .i64 (k : Int) ∧ k ≤ len1 ∧ PI w wr b mb x0 x1 k s q v r vw vs vc) (fun iv _ => len1 - (intOf iv).toNat)
  case atStart => exact ⟨0, newSt x0 x1, #[], .slice none 0 0, _, _, _, _, rfl, Nat.zero_le _, HPI.out⟩
  case round =>
    obtain ⟨k, s, q, v, r, vw, vs, vc, rfl, hk, hpi⟩ := hrel
    clear HPI
    by_cases hlt : k < len1
    · obtain ⟨xb, xo, rfl, hle, hxb, hc⟩ := w1.at_ hlt
      have hc' := hc.keep (hpi.fr.block xb hxb (by omega))
      have hxb2 : xb < wr.heap.size := by have := hpi.fr.size; omega
      clear hc w1
      generalize z1.getD k default = x at *
      obtain ⟨c0, c1, c2, c3, c4, wk, wt⟩ := hc'
      obtain ⟨wk0, wk1⟩ := wk
      have hlt' : (k : Int) < (len1 : Int) := by omega
      obtain ⟨A1, e1, hv1⟩ := row_shape hpi.mem.wait
      obtain ⟨A2, e2, hv2⟩ := row_shape hpi.mem.seen
      obtain ⟨A3, e3, hv3⟩ := row_shape hpi.mem.shown
      subst hv1 hv2 hv3
      have HPI := Lib.hid hpi
      clear hpi
      go_upto_block 2 with (fail)
      have hpy := HPI.out.frF ((Fr.refl (fun _ => False) wr).alloc (.cells #[.int .u8 x.kind, .int .i64 x.time, .int .i64 x.k0, .int .i64 x.k1, .int .i64 x.k2] 45))
      have hA := Blk.new wr 45 #[.int .u8 x.kind, .int .i64 x.time, .int .i64 x.k0, .int .i64 x.k1, .int .i64 x.k2]
      generalize (wr.alloc (.cells #[.int .u8 x.kind, .int .i64 x.time, .int .i64 x.k0, .int .i64 x.k1, .int .i64 x.k2] 45)) = wy at *
      generalize wr.heap.size = gx at *
      clear c0 c1 c2 c3 c4 HPI hxb2
      go_cut [] from 75 to 136 (fun wx => ∃ (s : St) (q : Array Item) (v : Value) (r : RB) (vw vs vc : Value), PI w wx b mb x0 x1 (k + 1) s q v r vw vs vc)
      case first =>
        have HPYo := Lib.hid hpy
        have HAo := Lib.hid hA
        clear hpy hA
        by_cases t0 : x.kind % 8 = 0
        · have t0' : (x.kind % 8 == 0) = true := by simp [t0]
          have hpy := HPYo.out
          have hA := HAo.out
          clear HPYo HAo t0
          obtain ⟨b0, b1, b2, b3, b4, b5, b6, b7⟩ := hpy.blk.cells8
          have a0 := hA.cell 0
          have a1' := hA.cell 1
          have a2 := hA.cell 2
          have a3 := hA.cell 3
          have a4 := hA.cell 4
          simp only [List.getElem?_toArray, List.getElem?_cons_zero, List.getElem?_cons_succ] at a0 a1' a2 a3 a4
          have HPY := Lib.hid hpy
          have HA := Lib.hid hA
          have HRA := Lib.hid (rpush_any r (.slice A1 r.wait.length e1) (.slice A2 r.seen.length e2) (.slice A3 r.shown.length e3) 0 x.time x.k0 x.k1 x.k2 wy (Nat.zero_le _) hpy.mem (by have := hpy.rp.wlen; omega) (by have := hpy.rp.slen; omega) (by have := hpy.rp.clen; omega) (by rw [hpy.lat]; exact h0) (by rw [hpy.lat]; exact h1) hpy.rp.times hpy.rp.num0 (by have := hpy.rp.num1; omega) hpy.rp.late0 (by have := hpy.rp.late1; omega))
          have HF := Lib.hid (hpy.fit h0 h1 h3 (by omega))
          have hlr := rPush_lat r x.time x.k0 x.k1 x.k2
          have hcode := hpy.rp.code x.time
          have HRP := Lib.hid (fun q' hw => hpy.rp.push (t := x.time) (k0 := x.k0) (k1 := x.k1) (k2 := x.k2) (q' := q') hw)
          have hshr : r.shown.length = (rPush r x.time x.k0 x.k1 x.k2).shown.length := by
            unfold rPush
            split
            · rfl
            · split <;> rfl
          have HSH := Lib.hid hshr
          have HLR := Lib.hid hlr
          have HC := Lib.hid hcode
          clear hpy hA hlr hcode hshr
          generalize rPush r x.time x.k0 x.k1 x.k2 = r' at *
          generalize rCode r x.time = code at *
          go_upto_region 22 with (fail)
          go_wp2_with fail
          refine HRA.out.mono ?_
          rintro e w2 ⟨vw', vs', rfl, hm2, hf2⟩
          have hp2 := HPY.out.frF hf2
          have hA2 := HA.out.fr hf2 (fun h => h)
          clear HPY HA HRA b0 b1 b2 b3 b4 b5 b6 b7 a0 a1' a2 a3 a4 hf2
          obtain ⟨A4, e4, hv4⟩ := row_shape hm2.wait
          obtain ⟨A5, e5, hv5⟩ := row_shape hm2.seen
          subst hv4 hv5
          obtain ⟨b0, b1, b2, b3, b4, b5, b6, b7⟩ := hp2.blk.cells8
          obtain ⟨g0, g1, g2, g3, g4, g5, g6, g7⟩ := hp2.blk.free8
          have hmbl := hp2.blk.lt
          have HP2 := Lib.hid hp2
          have HA2 := Lib.hid hA2
          have HM2 := Lib.hid hm2
          clear hp2 hA2 hm2
          go_upto_region 23 with (fail)
          have B8 := HP2.out.blk.set8 rfl (.int .i64 r'.lat) (.int .i64 r'.room) (.slice A4 r'.wait.length e4) (.slice A5 r'.seen.length e5) (.slice A3 r.shown.length e3) (.int .i64 r'.num) (.int .i64 r'.late) (.bool r'.closed)
          generalize ((((((((w2.setCell ⟨mb, 0, none⟩ (.int .i64 r'.lat)).setCell ⟨mb, 1, none⟩ (.int .i64 r'.room)).setCell ⟨mb, 2, none⟩ (.slice A4 r'.wait.length e4)).setCell ⟨mb, 3, none⟩ (.slice A5 r'.seen.length e5)).setCell ⟨mb, 4, none⟩ (.slice A3 r.shown.length e3)).setCell ⟨mb, 5, none⟩ (.int .i64 r'.num)).setCell ⟨mb, 6, none⟩ (.int .i64 r'.late)).setCell ⟨mb, 7, none⟩ (.bool r'.closed)) = w3 at *
          obtain ⟨hb3, hm3, hf3⟩ := HP2.out.store HM2.out B8.1 B8.2
          have hA3 := HA2.out.fr B8.2 (fun h => HP2.out.blk.ne_ HA2.out (by decide) h.symm)
          have a1' := hA3.cell 1
          have a2 := hA3.cell 2
          have a3 := hA3.cell 3
          have a4 := hA3.cell 4
          simp only [List.getElem?_toArray, List.getElem?_cons_zero, List.getElem?_cons_succ] at a1' a2 a3 a4
          have HB3 := Lib.hid hb3
          have HM3 := Lib.hid hm3
          have HF3 := Lib.hid hf3
          have HB8 := Lib.hid B8
          clear b0 b1 b2 b3 b4 b5 b6 b7 g0 g1 g2 g3 g4 g5 g6 g7 hb3 hm3 hf3 hA3 B8
          go_wp2_with fail
          refine (pushB w.heap.size b v s q x.time x.k0 x.k1 x.k2 w3 HB3.out HF.out).mono ?_
          rw [HC.out]
          rintro e w4 ⟨v2, q2, rfl, hp4⟩
          have hpn : PI w w4 b mb x0 x1 (k + 1) (pushSt s q.size x.time) q2 v2 r' (.slice A4 r'.wait.length e4) (.slice A5 r'.seen.length e5) (.slice A3 r.shown.length e3) := PI.next HB3.out HB8.out.1 HM3.out HF3.out hp4.fr hp4.buf HP2.out.own (fun j hj => by
            rcases hp4.own with ho | ⟨g, hg, hge⟩
            · exact HP2.out.own j (by rw [← ho]; exact hj)
            · rw [hg] at hj
              injection hj with hj
              have := HF3.out.size
              omega) (HRP.out q2 hp4.wait) (by rw [HLR.out.1]; exact HP2.out.lat) (by rw [HLR.out.2]; exact HP2.out.room) HP2.out.le
          have HPN := Lib.hid hpn
          have hcc : (code != code) = false := by simp
          clear hpn hp4 a1' a2 a3 a4
          go_wp2_with fail
          go_meet
          exact ⟨_, q2, v2, r', _, _, _, HPN.out⟩
        · have t0' : (x.kind % 8 == 0) = false := by simp [t0]
          clear t0
          by_cases t1 : x.kind % 8 = 1
          · have t1' : (x.kind % 8 == 1) = true := by simp [t1]
            have hpy := HPYo.out
            have hA := HAo.out
            clear HPYo HAo t1
            obtain ⟨b0, b1, b2, b3, b4, b5, b6, b7⟩ := hpy.blk.cells8
            have a0 := hA.cell 0
            have a1' := hA.cell 1
            have a2 := hA.cell 2
            have a3 := hA.cell 3
            have a4 := hA.cell 4
            simp only [List.getElem?_toArray, List.getElem?_cons_zero, List.getElem?_cons_succ] at a0 a1' a2 a3 a4
            have HPY := Lib.hid hpy
            have HA := Lib.hid hA
            have HRA := Lib.hid (rpush_any r (.slice A1 r.wait.length e1) (.slice A2 r.seen.length e2) (.slice A3 r.shown.length e3) 0 x.time x.k0 x.k1 x.k2 wy (Nat.zero_le _) hpy.mem (by have := hpy.rp.wlen; omega) (by have := hpy.rp.slen; omega) (by have := hpy.rp.clen; omega) (by rw [hpy.lat]; exact h0) (by rw [hpy.lat]; exact h1) hpy.rp.times hpy.rp.num0 (by have := hpy.rp.num1; omega) hpy.rp.late0 (by have := hpy.rp.late1; omega))
            have HF := Lib.hid (hpy.fit h0 h1 h3 (by omega))
            have hlr := rPush_lat r x.time x.k0 x.k1 x.k2
            have hcode := hpy.rp.code x.time
            have HRP := Lib.hid (fun q' hw => hpy.rp.push (t := x.time) (k0 := x.k0) (k1 := x.k1) (k2 := x.k2) (q' := q') hw)
            have hshr : r.shown.length = (rPush r x.time x.k0 x.k1 x.k2).shown.length := by
              unfold rPush
              split
              · rfl
              · split <;> rfl
            have HSH := Lib.hid hshr
            have HLR := Lib.hid hlr
            have HC := Lib.hid hcode
            clear hpy hA hlr hcode hshr
            generalize rPush r x.time x.k0 x.k1 x.k2 = r' at *
            generalize rCode r x.time = code at *
            go_upto_region 22 with (fail)
            go_wp2_with fail
            refine HRA.out.mono ?_
            rintro e w2 ⟨vw', vs', rfl, hm2, hf2⟩
            have hp2 := HPY.out.frF hf2
            have hA2 := HA.out.fr hf2 (fun h => h)
            clear HPY HA HRA b0 b1 b2 b3 b4 b5 b6 b7 a0 a1' a2 a3 a4 hf2
            obtain ⟨A4, e4, hv4⟩ := row_shape hm2.wait
            obtain ⟨A5, e5, hv5⟩ := row_shape hm2.seen
            subst hv4 hv5
            obtain ⟨b0, b1, b2, b3, b4, b5, b6, b7⟩ := hp2.blk.cells8
            obtain ⟨g0, g1, g2, g3, g4, g5, g6, g7⟩ := hp2.blk.free8
            have hmbl := hp2.blk.lt
            have HP2 := Lib.hid hp2
            have HA2 := Lib.hid hA2
            have HM2 := Lib.hid hm2
            clear hp2 hA2 hm2
            go_upto_region 23 with (fail)
            have B8 := HP2.out.blk.set8 rfl (.int .i64 r'.lat) (.int .i64 r'.room) (.slice A4 r'.wait.length e4) (.slice A5 r'.seen.length e5) (.slice A3 r.shown.length e3) (.int .i64 r'.num) (.int .i64 r'.late) (.bool r'.closed)
            generalize ((((((((w2.setCell ⟨mb, 0, none⟩ (.int .i64 r'.lat)).setCell ⟨mb, 1, none⟩ (.int .i64 r'.room)).setCell ⟨mb, 2, none⟩ (.slice A4 r'.wait.length e4)).setCell ⟨mb, 3, none⟩ (.slice A5 r'.seen.length e5)).setCell ⟨mb, 4, none⟩ (.slice A3 r.shown.length e3)).setCell ⟨mb, 5, none⟩ (.int .i64 r'.num)).setCell ⟨mb, 6, none⟩ (.int .i64 r'.late)).setCell ⟨mb, 7, none⟩ (.bool r'.closed)) = w3 at *
            obtain ⟨hb3, hm3, hf3⟩ := HP2.out.store HM2.out B8.1 B8.2
            have hA3 := HA2.out.fr B8.2 (fun h => HP2.out.blk.ne_ HA2.out (by decide) h.symm)
            have a1' := hA3.cell 1
            have a2 := hA3.cell 2
            have a3 := hA3.cell 3
            have a4 := hA3.cell 4
            simp only [List.getElem?_toArray, List.getElem?_cons_zero, List.getElem?_cons_succ] at a1' a2 a3 a4
            have HB3 := Lib.hid hb3
            have HM3 := Lib.hid hm3
            have HF3 := Lib.hid hf3
            have HB8 := Lib.hid B8
            clear b0 b1 b2 b3 b4 b5 b6 b7 g0 g1 g2 g3 g4 g5 g6 g7 hb3 hm3 hf3 hA3 B8
            go_wp2_with fail
            refine (pushB w.heap.size b v s q x.time x.k0 x.k1 x.k2 w3 HB3.out HF.out).mono ?_
            rw [HC.out]
            rintro e w4 ⟨v2, q2, rfl, hp4⟩
            have hpn : PI w w4 b mb x0 x1 (k + 1) (pushSt s q.size x.time) q2 v2 r' (.slice A4 r'.wait.length e4) (.slice A5 r'.seen.length e5) (.slice A3 r.shown.length e3) := PI.next HB3.out HB8.out.1 HM3.out HF3.out hp4.fr hp4.buf HP2.out.own (fun j hj => by
              rcases hp4.own with ho | ⟨g, hg, hge⟩
              · exact HP2.out.own j (by rw [← ho]; exact hj)
              · rw [hg] at hj
                injection hj with hj
                have := HF3.out.size
                omega) (HRP.out q2 hp4.wait) (by rw [HLR.out.1]; exact HP2.out.lat) (by rw [HLR.out.2]; exact HP2.out.room) HP2.out.le
            have HPN := Lib.hid hpn
            have hcc : (code != code) = false := by simp
            clear hpn hp4 a1' a2 a3 a4
            go_wp2_with fail
            go_meet
            exact ⟨_, q2, v2, r', _, _, _, HPN.out⟩
          · have t1' : (x.kind % 8 == 1) = false := by simp [t1]
            clear t1
            by_cases t2 : x.kind % 8 = 2
            · have t2' : (x.kind % 8 == 2) = true := by simp [t2]
              have hpy := HPYo.out
              have hA := HAo.out
              clear HPYo HAo t2
              obtain ⟨b0, b1, b2, b3, b4, b5, b6, b7⟩ := hpy.blk.cells8
              have a0 := hA.cell 0
              have a1' := hA.cell 1
              have a2 := hA.cell 2
              have a3 := hA.cell 3
              have a4 := hA.cell 4
              simp only [List.getElem?_toArray, List.getElem?_cons_zero, List.getElem?_cons_succ] at a0 a1' a2 a3 a4
              have HPY := Lib.hid hpy
              have HA := Lib.hid hA
              have HRA := Lib.hid (rpush_any r (.slice A1 r.wait.length e1) (.slice A2 r.seen.length e2) (.slice A3 r.shown.length e3) 0 x.time x.k0 x.k1 x.k2 wy (Nat.zero_le _) hpy.mem (by have := hpy.rp.wlen; omega) (by have := hpy.rp.slen; omega) (by have := hpy.rp.clen; omega) (by rw [hpy.lat]; exact h0) (by rw [hpy.lat]; exact h1) hpy.rp.times hpy.rp.num0 (by have := hpy.rp.num1; omega) hpy.rp.late0 (by have := hpy.rp.late1; omega))
              have HF := Lib.hid (hpy.fit h0 h1 h3 (by omega))
              have hlr := rPush_lat r x.time x.k0 x.k1 x.k2
              have hcode := hpy.rp.code x.time
              have HRP := Lib.hid (fun q' hw => hpy.rp.push (t := x.time) (k0 := x.k0) (k1 := x.k1) (k2 := x.k2) (q' := q') hw)
              have hshr : r.shown.length = (rPush r x.time x.k0 x.k1 x.k2).shown.length := by
                unfold rPush
                split
                · rfl
                · split <;> rfl
              have HSH := Lib.hid hshr
              have HLR := Lib.hid hlr
              have HC := Lib.hid hcode
              clear hpy hA hlr hcode hshr
              generalize rPush r x.time x.k0 x.k1 x.k2 = r' at *
              generalize rCode r x.time = code at *
              go_upto_region 22 with (fail)
              go_wp2_with fail
              refine HRA.out.mono ?_
              rintro e w2 ⟨vw', vs', rfl, hm2, hf2⟩
              have hp2 := HPY.out.frF hf2
              have hA2 := HA.out.fr hf2 (fun h => h)
              clear HPY HA HRA b0 b1 b2 b3 b4 b5 b6 b7 a0 a1' a2 a3 a4 hf2
              obtain ⟨A4, e4, hv4⟩ := row_shape hm2.wait
              obtain ⟨A5, e5, hv5⟩ := row_shape hm2.seen
              subst hv4 hv5
              obtain ⟨b0, b1, b2, b3, b4, b5, b6, b7⟩ := hp2.blk.cells8
              obtain ⟨g0, g1, g2, g3, g4, g5, g6, g7⟩ := hp2.blk.free8
              have hmbl := hp2.blk.lt
              have HP2 := Lib.hid hp2
              have HA2 := Lib.hid hA2
              have HM2 := Lib.hid hm2
              clear hp2 hA2 hm2
              go_upto_region 23 with (fail)
              have B8 := HP2.out.blk.set8 rfl (.int .i64 r'.lat) (.int .i64 r'.room) (.slice A4 r'.wait.length e4) (.slice A5 r'.seen.length e5) (.slice A3 r.shown.length e3) (.int .i64 r'.num) (.int .i64 r'.late) (.bool r'.closed)
              generalize ((((((((w2.setCell ⟨mb, 0, none⟩ (.int .i64 r'.lat)).setCell ⟨mb, 1, none⟩ (.int .i64 r'.room)).setCell ⟨mb, 2, none⟩ (.slice A4 r'.wait.length e4)).setCell ⟨mb, 3, none⟩ (.slice A5 r'.seen.length e5)).setCell ⟨mb, 4, none⟩ (.slice A3 r.shown.length e3)).setCell ⟨mb, 5, none⟩ (.int .i64 r'.num)).setCell ⟨mb, 6, none⟩ (.int .i64 r'.late)).setCell ⟨mb, 7, none⟩ (.bool r'.closed)) = w3 at *
              obtain ⟨hb3, hm3, hf3⟩ := HP2.out.store HM2.out B8.1 B8.2
              have hA3 := HA2.out.fr B8.2 (fun h => HP2.out.blk.ne_ HA2.out (by decide) h.symm)
              have a1' := hA3.cell 1
              have a2 := hA3.cell 2
              have a3 := hA3.cell 3
              have a4 := hA3.cell 4
              simp only [List.getElem?_toArray, List.getElem?_cons_zero, List.getElem?_cons_succ] at a1' a2 a3 a4
              have HB3 := Lib.hid hb3
              have HM3 := Lib.hid hm3
              have HF3 := Lib.hid hf3
              have HB8 := Lib.hid B8
              clear b0 b1 b2 b3 b4 b5 b6 b7 g0 g1 g2 g3 g4 g5 g6 g7 hb3 hm3 hf3 hA3 B8
              go_wp2_with fail
              refine (pushB w.heap.size b v s q x.time x.k0 x.k1 x.k2 w3 HB3.out HF.out).mono ?_
              rw [HC.out]
              rintro e w4 ⟨v2, q2, rfl, hp4⟩
              have hpn : PI w w4 b mb x0 x1 (k + 1) (pushSt s q.size x.time) q2 v2 r' (.slice A4 r'.wait.length e4) (.slice A5 r'.seen.length e5) (.slice A3 r.shown.length e3) := PI.next HB3.out HB8.out.1 HM3.out HF3.out hp4.fr hp4.buf HP2.out.own (fun j hj => by
                rcases hp4.own with ho | ⟨g, hg, hge⟩
                · exact HP2.out.own j (by rw [← ho]; exact hj)
                · rw [hg] at hj
                  injection hj with hj
                  have := HF3.out.size
                  omega) (HRP.out q2 hp4.wait) (by rw [HLR.out.1]; exact HP2.out.lat) (by rw [HLR.out.2]; exact HP2.out.room) HP2.out.le
              have HPN := Lib.hid hpn
              have hcc : (code != code) = false := by simp
              clear hpn hp4 a1' a2 a3 a4
              go_wp2_with fail
              go_meet
              exact ⟨_, q2, v2, r', _, _, _, HPN.out⟩
            · have t2' : (x.kind % 8 == 2) = false := by simp [t2]
              clear t2
              by_cases t3 : x.kind % 8 = 3
              · have t3' : (x.kind % 8 == 3) = true := by simp [t3]
                have hpy := HPYo.out
                have hA := HAo.out
                clear HPYo HAo t3
                obtain ⟨b0, b1, b2, b3, b4, b5, b6, b7⟩ := hpy.blk.cells8
                have a0 := hA.cell 0
                have a1' := hA.cell 1
                have a2 := hA.cell 2
                have a3 := hA.cell 3
                have a4 := hA.cell 4
                simp only [List.getElem?_toArray, List.getElem?_cons_zero, List.getElem?_cons_succ] at a0 a1' a2 a3 a4
                have HPY := Lib.hid hpy
                have HA := Lib.hid hA
                have HRA := Lib.hid (rpush_any r (.slice A1 r.wait.length e1) (.slice A2 r.seen.length e2) (.slice A3 r.shown.length e3) 0 x.time x.k0 x.k1 x.k2 wy (Nat.zero_le _) hpy.mem (by have := hpy.rp.wlen; omega) (by have := hpy.rp.slen; omega) (by have := hpy.rp.clen; omega) (by rw [hpy.lat]; exact h0) (by rw [hpy.lat]; exact h1) hpy.rp.times hpy.rp.num0 (by have := hpy.rp.num1; omega) hpy.rp.late0 (by have := hpy.rp.late1; omega))
                have HF := Lib.hid (hpy.fit h0 h1 h3 (by omega))
                have hlr := rPush_lat r x.time x.k0 x.k1 x.k2
                have hcode := hpy.rp.code x.time
                have HRP := Lib.hid (fun q' hw => hpy.rp.push (t := x.time) (k0 := x.k0) (k1 := x.k1) (k2 := x.k2) (q' := q') hw)
                have hshr : r.shown.length = (rPush r x.time x.k0 x.k1 x.k2).shown.length := by
                  unfold rPush
                  split
                  · rfl
                  · split <;> rfl
                have HSH := Lib.hid hshr
                have HLR := Lib.hid hlr
                have HC := Lib.hid hcode
                clear hpy hA hlr hcode hshr
                generalize rPush r x.time x.k0 x.k1 x.k2 = r' at *
                generalize rCode r x.time = code at *
                go_upto_region 22 with (fail)
                go_wp2_with fail
                refine HRA.out.mono ?_
                rintro e w2 ⟨vw', vs', rfl, hm2, hf2⟩
                have hp2 := HPY.out.frF hf2
                have hA2 := HA.out.fr hf2 (fun h => h)
                clear HPY HA HRA b0 b1 b2 b3 b4 b5 b6 b7 a0 a1' a2 a3 a4 hf2
                obtain ⟨A4, e4, hv4⟩ := row_shape hm2.wait
                obtain ⟨A5, e5, hv5⟩ := row_shape hm2.seen
                subst hv4 hv5
                obtain ⟨b0, b1, b2, b3, b4, b5, b6, b7⟩ := hp2.blk.cells8
                obtain ⟨g0, g1, g2, g3, g4, g5, g6, g7⟩ := hp2.blk.free8
                have hmbl := hp2.blk.lt
                have HP2 := Lib.hid hp2
                have HA2 := Lib.hid hA2
                have HM2 := Lib.hid hm2
                clear hp2 hA2 hm2
                go_upto_region 23 with (fail)
                have B8 := HP2.out.blk.set8 rfl (.int .i64 r'.lat) (.int .i64 r'.room) (.slice A4 r'.wait.length e4) (.slice A5 r'.seen.length e5) (.slice A3 r.shown.length e3) (.int .i64 r'.num) (.int .i64 r'.late) (.bool r'.closed)
                generalize ((((((((w2.setCell ⟨mb, 0, none⟩ (.int .i64 r'.lat)).setCell ⟨mb, 1, none⟩ (.int .i64 r'.room)).setCell ⟨mb, 2, none⟩ (.slice A4 r'.wait.length e4)).setCell ⟨mb, 3, none⟩ (.slice A5 r'.seen.length e5)).setCell ⟨mb, 4, none⟩ (.slice A3 r.shown.length e3)).setCell ⟨mb, 5, none⟩ (.int .i64 r'.num)).setCell ⟨mb, 6, none⟩ (.int .i64 r'.late)).setCell ⟨mb, 7, none⟩ (.bool r'.closed)) = w3 at *
                obtain ⟨hb3, hm3, hf3⟩ := HP2.out.store HM2.out B8.1 B8.2
                have hA3 := HA2.out.fr B8.2 (fun h => HP2.out.blk.ne_ HA2.out (by decide) h.symm)
                have a1' := hA3.cell 1
                have a2 := hA3.cell 2
                have a3 := hA3.cell 3
                have a4 := hA3.cell 4
                simp only [List.getElem?_toArray, List.getElem?_cons_zero, List.getElem?_cons_succ] at a1' a2 a3 a4
                have HB3 := Lib.hid hb3
                have HM3 := Lib.hid hm3
                have HF3 := Lib.hid hf3
                have HB8 := Lib.hid B8
                clear b0 b1 b2 b3 b4 b5 b6 b7 g0 g1 g2 g3 g4 g5 g6 g7 hb3 hm3 hf3 hA3 B8
                go_wp2_with fail
                refine (pushB w.heap.size b v s q x.time x.k0 x.k1 x.k2 w3 HB3.out HF.out).mono ?_
                rw [HC.out]
                rintro e w4 ⟨v2, q2, rfl, hp4⟩
                have hpn : PI w w4 b mb x0 x1 (k + 1) (pushSt s q.size x.time) q2 v2 r' (.slice A4 r'.wait.length e4) (.slice A5 r'.seen.length e5) (.slice A3 r.shown.length e3) := PI.next HB3.out HB8.out.1 HM3.out HF3.out hp4.fr hp4.buf HP2.out.own (fun j hj => by
                  rcases hp4.own with ho | ⟨g, hg, hge⟩
                  · exact HP2.out.own j (by rw [← ho]; exact hj)
                  · rw [hg] at hj
                    injection hj with hj
                    have := HF3.out.size
                    omega) (HRP.out q2 hp4.wait) (by rw [HLR.out.1]; exact HP2.out.lat) (by rw [HLR.out.2]; exact HP2.out.room) HP2.out.le
                have HPN := Lib.hid hpn
                have hcc : (code != code) = false := by simp
                clear hpn hp4 a1' a2 a3 a4
                go_wp2_with fail
                go_meet
                exact ⟨_, q2, v2, r', _, _, _, HPN.out⟩
              · have t3' : (x.kind % 8 == 3) = false := by simp [t3]
                clear t3
                by_cases t4 : x.kind % 8 = 4
                · have t4' : (x.kind % 8 == 4) = true := by simp [t4]
                  have hpy := HPYo.out
                  have hA := HAo.out
                  clear HPYo HAo t4
                  obtain ⟨b0, b1, b2, b3, b4, b5, b6, b7⟩ := hpy.blk.cells8
                  have a1' := hA.cell 1
                  simp only [List.getElem?_toArray, List.getElem?_cons_zero, List.getElem?_cons_succ] at a1'
                  have HPY := Lib.hid hpy
                  have HA := Lib.hid hA
                  have HRA := Lib.hid (rtick_any r (.slice A1 r.wait.length e1) (.slice A2 r.seen.length e2) (.slice A3 r.shown.length e3) 0 x.time wy (Nat.zero_le _) hpy.mem (by have := hpy.rp.clen; omega))
                  have HF := Lib.hid (hpy.fit h0 h1 h3 (by omega))
                  have hlr := rTick_lat r x.time
                  have hcode := hpy.rp.tcode x.time
                  have HRP := Lib.hid (hpy.rp.tick x.time)
                  have HLR := Lib.hid hlr
                  have HC := Lib.hid hcode
                  clear hpy hA hlr hcode
                  generalize rTick r x.time = r' at *
                  generalize rtCode r x.time = code at *
                  go_upto_region 26 with (fail)
                  go_wp2_with fail
                  refine HRA.out.mono ?_
                  rintro e w2 ⟨vc', rfl, hm2, hf2⟩
                  have hp2 := HPY.out.frF hf2
                  have hA2 := HA.out.fr hf2 (fun h => h)
                  clear HPY HA HRA b0 b1 b2 b3 b4 b5 b6 b7 a1' hf2
                  obtain ⟨A6, e6, hv6⟩ := row_shape hm2.shown
                  subst hv6
                  obtain ⟨b0, b1, b2, b3, b4, b5, b6, b7⟩ := hp2.blk.cells8
                  obtain ⟨g0, g1, g2, g3, g4, g5, g6, g7⟩ := hp2.blk.free8
                  have hmbl := hp2.blk.lt
                  have HP2 := Lib.hid hp2
                  have HA2 := Lib.hid hA2
                  have HM2 := Lib.hid hm2
                  clear hp2 hA2 hm2
                  go_upto_region 27 with (fail)
                  have B8 := HP2.out.blk.set8 rfl (.int .i64 r'.lat) (.int .i64 r'.room) (.slice A1 r.wait.length e1) (.slice A2 r.seen.length e2) (.slice A6 r'.shown.length e6) (.int .i64 r'.num) (.int .i64 r'.late) (.bool r'.closed)
                  generalize ((((((((w2.setCell ⟨mb, 0, none⟩ (.int .i64 r'.lat)).setCell ⟨mb, 1, none⟩ (.int .i64 r'.room)).setCell ⟨mb, 2, none⟩ (.slice A1 r.wait.length e1)).setCell ⟨mb, 3, none⟩ (.slice A2 r.seen.length e2)).setCell ⟨mb, 4, none⟩ (.slice A6 r'.shown.length e6)).setCell ⟨mb, 5, none⟩ (.int .i64 r'.num)).setCell ⟨mb, 6, none⟩ (.int .i64 r'.late)).setCell ⟨mb, 7, none⟩ (.bool r'.closed)) = w3 at *
                  obtain ⟨hb3, hm3, hf3⟩ := HP2.out.store HM2.out B8.1 B8.2
                  have hA3 := HA2.out.fr B8.2 (fun h => HP2.out.blk.ne_ HA2.out (by decide) h.symm)
                  have a1' := hA3.cell 1
                  simp only [List.getElem?_toArray, List.getElem?_cons_zero, List.getElem?_cons_succ] at a1'
                  have HB3 := Lib.hid hb3
                  have HM3 := Lib.hid hm3
                  have HF3 := Lib.hid hf3
                  have HB8 := Lib.hid B8
                  clear b0 b1 b2 b3 b4 b5 b6 b7 g0 g1 g2 g3 g4 g5 g6 g7 hb3 hm3 hf3 hA3 B8
                  go_wp2_with fail
                  refine (tick_any w.heap.size b v s q x.time w3 HB3.out HF.out).mono ?_
                  rw [HC.out]
                  rintro e w4 ⟨rfl, hb4, hf4⟩
                  have hpn : PI w w4 b mb x0 x1 (k + 1) (tickSt s x.time) q v r' (.slice A1 r.wait.length e1) (.slice A2 r.seen.length e2) (.slice A6 r'.shown.length e6) := PI.next HB3.out HB8.out.1 HM3.out HF3.out (hf4.mono (fun _ _ e => .inl e)) hb4 HP2.out.own HP2.out.own HRP.out (by rw [HLR.out.1]; exact HP2.out.lat) (by rw [HLR.out.2]; exact HP2.out.room) HP2.out.le
                  have HPN := Lib.hid hpn
                  have hcc : (code != code) = false := by simp
                  clear hpn hb4 hf4 a1'
                  go_wp2_with fail
                  go_meet
                  exact ⟨_, q, v, r', _, _, _, HPN.out⟩
                · have t4' : (x.kind % 8 == 4) = false := by simp [t4]
                  clear t4
                  by_cases t5 : x.kind % 8 = 5
                  · have t5' : (x.kind % 8 == 5) = true := by simp [t5]
                    have hpy := HPYo.out
                    have hA := HAo.out
                    clear HPYo HAo t5
                    obtain ⟨b0, b1, b2, b3, b4, b5, b6, b7⟩ := hpy.blk.cells8
                    have HPY := Lib.hid hpy
                    have HRA := Lib.hid (rtake_any r (.slice A1 r.wait.length e1) (.slice A2 r.seen.length e2) (.slice A3 r.shown.length e3) 0 false wy (Nat.zero_le _) hpy.mem (by have := hpy.rp.wlen; omega) (by have := hpy.rp.slen; omega) (by have := hpy.rp.clen; omega) (by rw [hpy.lat]; exact h0) (by rw [hpy.lat]; exact h1) hpy.rp.times)
                    have HR' : ∃ r', r' = rTake r false := ⟨_, rfl⟩
                    obtain ⟨r', hr'⟩ := HR'
                    have HL' : ∃ l, l = rOut r false := ⟨_, rfl⟩
                    obtain ⟨l, hl'⟩ := HL'
                    rw [← hr', ← hl'] at HRA
                    have HRE := Lib.hid hr'
                    have HLE := Lib.hid hl'
                    clear hpy hA hr' hl'
                    go_upto_region 31 with (fail)
                    go_wp2_with fail
                    refine HRA.out.mono ?_
                    rintro e w2 ⟨vw', o, rfl, hm2, ho2', hf2⟩
                    have hp2 := HPY.out.frF hf2
                    clear HPY HRA b0 b1 b2 b3 b4 b5 b6 b7 hf2
                    obtain ⟨A4, e4, hv4⟩ := row_shape hm2.wait
                    subst hv4
                    have HP2 := Lib.hid hp2
                    have HM2 := Lib.hid hm2
                    have HO2 := Lib.hid ho2'
                    clear hp2 hm2 ho2'
                    go_upto_region 32 with (fail)
                    have hp3 := HP2.out.frF ((Fr.refl (fun _ => False) w2).alloc (.cells (bCells r'.lat r'.room (.slice A4 r'.wait.length e4) (.slice A2 r.seen.length e2) (.slice A3 r.shown.length e3) r'.num r'.late r'.closed) 54))
                    have hm3 := HM2.out.frF ((Fr.refl (fun _ => False) w2).alloc (.cells (bCells r'.lat r'.room (.slice A4 r'.wait.length e4) (.slice A2 r.seen.length e2) (.slice A3 r.shown.length e3) r'.num r'.late r'.closed) 54))
                    have ho3 := HO2.out.alloc (.cells (bCells r'.lat r'.room (.slice A4 r'.wait.length e4) (.slice A2 r.seen.length e2) (.slice A3 r.shown.length e3) r'.num r'.late r'.closed) 54)
                    have hN := Blk.new w2 54 (bCells r'.lat r'.room (.slice A4 r'.wait.length e4) (.slice A2 r.seen.length e2) (.slice A3 r.shown.length e3) r'.num r'.late r'.closed)
                    generalize (w2.alloc (.cells (bCells r'.lat r'.room (.slice A4 r'.wait.length e4) (.slice A2 r.seen.length e2) (.slice A3 r.shown.length e3) r'.num r'.late r'.closed) 54)) = w3 at *
                    generalize w2.heap.size = nb at *
                    have HP3 := Lib.hid hp3
                    have HM3 := Lib.hid hm3
                    have HO3 := Lib.hid ho3
                    have HN := Lib.hid hN
                    clear hp3 hm3 ho3 hN
                    go_wp2_with fail
                    refine (take_any w.heap.size b v s q w3 HP3.out.buf).mono ?_
                    rintro e w4 ⟨v2, o2, t, q2, rfl, ho2, hb4, ht, htm, hrm, hf4, hv4⟩
                    have htk := take_took HP3.out.rp ht htm hrm
                    clear htm hrm
                    rw [← HLE.out, ← HRE.out] at htk
                    obtain ⟨htl, hrp4⟩ := htk
                    have hp4 : PI w w4 b mb x0 x1 k s q v r (.slice A1 r.wait.length e1) (.slice A2 r.seen.length e2) (.slice A3 r.shown.length e3) → True := fun _ => trivial
                    have hN4 := keep_blk HP3.out.buf HN.out (by decide) (by decide) hf4
                    have hB4 := keep_blk HP3.out.buf HP3.out.blk (by decide) (by decide) hf4
                    have hm4 := keep_mem HP3.out.buf HM3.out hf4
                    have ho4 := took_row (keep_row HP3.out.buf HO3.out (by decide) (by decide) hf4) htl
                    have hts : t.size ≤ 1000 := by have := ht.size; have := HP3.out.buf.small; omega
                    have hfr4 : Fr (fun j => w.heap.size ≤ j) w w4 := HP3.out.fr.trans hf4 (fun i hi e => by
                      rcases e with e | e
                      · rw [e]; exact HP3.out.buf.pq.le
                      · exact HP3.out.own _ e)
                    have hown4 : ∀ j, v2.ownBlock = some j → w.heap.size ≤ j := fun j hj => HP3.out.own j (by rw [← hv4]; exact hj)
                    have HSM := Lib.hid (same_any o2 o _ 0 t w4 ho2 ho4 hts)
                    have HRP4 := Lib.hid hrp4
                    have HB4 := Lib.hid hb4
                    have HN4 := Lib.hid hN4
                    have HBM := Lib.hid hB4
                    have HM4 := Lib.hid hm4
                    have HFR4 := Lib.hid hfr4
                    have HOW := Lib.hid hown4
                    clear ht htl hrp4 hp4 hf4 hv4 ho2 ho4 hts hN4 hB4 hm4 hfr4 hown4 hb4
                    go_wp2_with fail
                    refine HSM.out.mono ?_
                    rintro e w5 ⟨rfl, hf5⟩
                    have hN5 := HN4.out.fr hf5 (fun h => h)
                    have hB5 := HBM.out.fr hf5 (fun h => h)
                    obtain ⟨b0, b1, b2, b3, b4, b5, b6, b7⟩ := hN5.cells8
                    obtain ⟨g0, g1, g2, g3, g4, g5, g6, g7⟩ := hB5.free8
                    obtain ⟨y0, y1, y2, y3, y4, y5, y6, y7⟩ := hB5.cells8
                    have hmbl := hB5.lt
                    have HF5 := Lib.hid hf5
                    have HB5 := Lib.hid hB5
                    clear hN5 hB5 hf5 HSM
                    go_wp2_with fail
                    go_meet
                    have B8 := HB5.out.set8 rfl (.int .i64 r'.lat) (.int .i64 r'.room) (.slice A4 r'.wait.length e4) (.slice A2 r.seen.length e2) (.slice A3 r.shown.length e3) (.int .i64 r'.num) (.int .i64 r'.late) (.bool r'.closed)
                    have hpn : PI w ((((((((w5.setCell ⟨mb, 0, none⟩ (.int .i64 r'.lat)).setCell ⟨mb, 1, none⟩ (.int .i64 r'.room)).setCell ⟨mb, 2, none⟩ (.slice A4 r'.wait.length e4)).setCell ⟨mb, 3, none⟩ (.slice A2 r.seen.length e2)).setCell ⟨mb, 4, none⟩ (.slice A3 r.shown.length e3)).setCell ⟨mb, 5, none⟩ (.int .i64 r'.num)).setCell ⟨mb, 6, none⟩ (.int .i64 r'.late)).setCell ⟨mb, 7, none⟩ (.bool r'.closed)) b mb x0 x1 (k + 1) s q2 v2 r' (.slice A4 r'.wait.length e4) (.slice A2 r.seen.length e2) (.slice A3 r.shown.length e3) :=
                      ⟨HRP4.out, by rw [HRE.out]; exact HP3.out.lat, by rw [HRE.out]; exact HP3.out.room, keep_buf (HB4.out.frF HF5.out) HB5.out B8.2, B8.1, keep_mem54 HB5.out (HM4.out.frF HF5.out) B8.2,
                        (HFR4.out.trans HF5.out (fun _ _ h => h.elim)).trans B8.2 (fun i hi e => by have := HP3.out.le; omega), HOW.out, HP3.out.le⟩
                    exact ⟨_, q2, v2, r', _, _, _, hpn⟩
                  · have t5' : (x.kind % 8 == 5) = false := by simp [t5]
                    clear t5
                    by_cases t6 : x.kind % 8 = 6
                    · have t6' : (x.kind % 8 == 6) = true := by simp [t6]
                      have hpy := HPYo.out
                      have hA := HAo.out
                      clear HPYo HAo t6
                      obtain ⟨b0, b1, b2, b3, b4, b5, b6, b7⟩ := hpy.blk.cells8
                      have HPY := Lib.hid hpy
                      have HRA := Lib.hid (rtake_any r (.slice A1 r.wait.length e1) (.slice A2 r.seen.length e2) (.slice A3 r.shown.length e3) 0 false wy (Nat.zero_le _) hpy.mem (by have := hpy.rp.wlen; omega) (by have := hpy.rp.slen; omega) (by have := hpy.rp.clen; omega) (by rw [hpy.lat]; exact h0) (by rw [hpy.lat]; exact h1) hpy.rp.times)
                      have HR' : ∃ r', r' = rTake r false := ⟨_, rfl⟩
                      obtain ⟨r', hr'⟩ := HR'
                      have HL' : ∃ l, l = rOut r false := ⟨_, rfl⟩
                      obtain ⟨l, hl'⟩ := HL'
                      rw [← hr', ← hl'] at HRA
                      have HRE := Lib.hid hr'
                      have HLE := Lib.hid hl'
                      clear hpy hA hr' hl'
                      go_upto_region 31 with (fail)
                      go_wp2_with fail
                      refine HRA.out.mono ?_
                      rintro e w2 ⟨vw', o, rfl, hm2, ho2', hf2⟩
                      have hp2 := HPY.out.frF hf2
                      clear HPY HRA b0 b1 b2 b3 b4 b5 b6 b7 hf2
                      obtain ⟨A4, e4, hv4⟩ := row_shape hm2.wait
                      subst hv4
                      have HP2 := Lib.hid hp2
                      have HM2 := Lib.hid hm2
                      have HO2 := Lib.hid ho2'
                      clear hp2 hm2 ho2'
                      go_upto_region 32 with (fail)
                      have hp3 := HP2.out.frF ((Fr.refl (fun _ => False) w2).alloc (.cells (bCells r'.lat r'.room (.slice A4 r'.wait.length e4) (.slice A2 r.seen.length e2) (.slice A3 r.shown.length e3) r'.num r'.late r'.closed) 54))
                      have hm3 := HM2.out.frF ((Fr.refl (fun _ => False) w2).alloc (.cells (bCells r'.lat r'.room (.slice A4 r'.wait.length e4) (.slice A2 r.seen.length e2) (.slice A3 r.shown.length e3) r'.num r'.late r'.closed) 54))
                      have ho3 := HO2.out.alloc (.cells (bCells r'.lat r'.room (.slice A4 r'.wait.length e4) (.slice A2 r.seen.length e2) (.slice A3 r.shown.length e3) r'.num r'.late r'.closed) 54)
                      have hN := Blk.new w2 54 (bCells r'.lat r'.room (.slice A4 r'.wait.length e4) (.slice A2 r.seen.length e2) (.slice A3 r.shown.length e3) r'.num r'.late r'.closed)
                      generalize (w2.alloc (.cells (bCells r'.lat r'.room (.slice A4 r'.wait.length e4) (.slice A2 r.seen.length e2) (.slice A3 r.shown.length e3) r'.num r'.late r'.closed) 54)) = w3 at *
                      generalize w2.heap.size = nb at *
                      have HP3 := Lib.hid hp3
                      have HM3 := Lib.hid hm3
                      have HO3 := Lib.hid ho3
                      have HN := Lib.hid hN
                      clear hp3 hm3 ho3 hN
                      go_wp2_with fail
                      refine (take_any w.heap.size b v s q w3 HP3.out.buf).mono ?_
                      rintro e w4 ⟨v2, o2, t, q2, rfl, ho2, hb4, ht, htm, hrm, hf4, hv4⟩
                      have htk := take_took HP3.out.rp ht htm hrm
                      clear htm hrm
                      rw [← HLE.out, ← HRE.out] at htk
                      obtain ⟨htl, hrp4⟩ := htk
                      have hp4 : PI w w4 b mb x0 x1 k s q v r (.slice A1 r.wait.length e1) (.slice A2 r.seen.length e2) (.slice A3 r.shown.length e3) → True := fun _ => trivial
                      have hN4 := keep_blk HP3.out.buf HN.out (by decide) (by decide) hf4
                      have hB4 := keep_blk HP3.out.buf HP3.out.blk (by decide) (by decide) hf4
                      have hm4 := keep_mem HP3.out.buf HM3.out hf4
                      have ho4 := took_row (keep_row HP3.out.buf HO3.out (by decide) (by decide) hf4) htl
                      have hts : t.size ≤ 1000 := by have := ht.size; have := HP3.out.buf.small; omega
                      have hfr4 : Fr (fun j => w.heap.size ≤ j) w w4 := HP3.out.fr.trans hf4 (fun i hi e => by
                        rcases e with e | e
                        · rw [e]; exact HP3.out.buf.pq.le
                        · exact HP3.out.own _ e)
                      have hown4 : ∀ j, v2.ownBlock = some j → w.heap.size ≤ j := fun j hj => HP3.out.own j (by rw [← hv4]; exact hj)
                      have HSM := Lib.hid (same_any o2 o _ 0 t w4 ho2 ho4 hts)
                      have HRP4 := Lib.hid hrp4
                      have HB4 := Lib.hid hb4
                      have HN4 := Lib.hid hN4
                      have HBM := Lib.hid hB4
                      have HM4 := Lib.hid hm4
                      have HFR4 := Lib.hid hfr4
                      have HOW := Lib.hid hown4
                      clear ht htl hrp4 hp4 hf4 hv4 ho2 ho4 hts hN4 hB4 hm4 hfr4 hown4 hb4
                      go_wp2_with fail
                      refine HSM.out.mono ?_
                      rintro e w5 ⟨rfl, hf5⟩
                      have hN5 := HN4.out.fr hf5 (fun h => h)
                      have hB5 := HBM.out.fr hf5 (fun h => h)
                      obtain ⟨b0, b1, b2, b3, b4, b5, b6, b7⟩ := hN5.cells8
                      obtain ⟨g0, g1, g2, g3, g4, g5, g6, g7⟩ := hB5.free8
                      obtain ⟨y0, y1, y2, y3, y4, y5, y6, y7⟩ := hB5.cells8
                      have hmbl := hB5.lt
                      have HF5 := Lib.hid hf5
                      have HB5 := Lib.hid hB5
                      clear hN5 hB5 hf5 HSM
                      go_wp2_with fail
                      go_meet
                      have B8 := HB5.out.set8 rfl (.int .i64 r'.lat) (.int .i64 r'.room) (.slice A4 r'.wait.length e4) (.slice A2 r.seen.length e2) (.slice A3 r.shown.length e3) (.int .i64 r'.num) (.int .i64 r'.late) (.bool r'.closed)
                      have hpn : PI w ((((((((w5.setCell ⟨mb, 0, none⟩ (.int .i64 r'.lat)).setCell ⟨mb, 1, none⟩ (.int .i64 r'.room)).setCell ⟨mb, 2, none⟩ (.slice A4 r'.wait.length e4)).setCell ⟨mb, 3, none⟩ (.slice A2 r.seen.length e2)).setCell ⟨mb, 4, none⟩ (.slice A3 r.shown.length e3)).setCell ⟨mb, 5, none⟩ (.int .i64 r'.num)).setCell ⟨mb, 6, none⟩ (.int .i64 r'.late)).setCell ⟨mb, 7, none⟩ (.bool r'.closed)) b mb x0 x1 (k + 1) s q2 v2 r' (.slice A4 r'.wait.length e4) (.slice A2 r.seen.length e2) (.slice A3 r.shown.length e3) :=
                        ⟨HRP4.out, by rw [HRE.out]; exact HP3.out.lat, by rw [HRE.out]; exact HP3.out.room, keep_buf (HB4.out.frF HF5.out) HB5.out B8.2, B8.1, keep_mem54 HB5.out (HM4.out.frF HF5.out) B8.2,
                          (HFR4.out.trans HF5.out (fun _ _ h => h.elim)).trans B8.2 (fun i hi e => by have := HP3.out.le; omega), HOW.out, HP3.out.le⟩
                      exact ⟨_, q2, v2, r', _, _, _, hpn⟩
                    · have t6' : (x.kind % 8 == 6) = false := by simp [t6]
                      clear t6
                      have hpy := HPYo.out
                      have hA := HAo.out
                      clear HPYo HAo
                      obtain ⟨b0, b1, b2, b3, b4, b5, b6, b7⟩ := hpy.blk.cells8
                      have HPY := Lib.hid hpy
                      have HRA := Lib.hid (rtake_any r (.slice A1 r.wait.length e1) (.slice A2 r.seen.length e2) (.slice A3 r.shown.length e3) 0 true wy (Nat.zero_le _) hpy.mem (by have := hpy.rp.wlen; omega) (by have := hpy.rp.slen; omega) (by have := hpy.rp.clen; omega) (by rw [hpy.lat]; exact h0) (by rw [hpy.lat]; exact h1) hpy.rp.times)
                      have HR' : ∃ r', r' = rTake r true := ⟨_, rfl⟩
                      obtain ⟨r', hr'⟩ := HR'
                      have HL' : ∃ l, l = rOut r true := ⟨_, rfl⟩
                      obtain ⟨l, hl'⟩ := HL'
                      rw [← hr', ← hl'] at HRA
                      have HRE := Lib.hid hr'
                      have HLE := Lib.hid hl'
                      clear hpy hA hr' hl'
                      go_upto_region 14 with (fail)
                      go_wp2_with fail
                      refine HRA.out.mono ?_
                      rintro e w2 ⟨vw', o, rfl, hm2, ho2', hf2⟩
                      have hp2 := HPY.out.frF hf2
                      clear HPY HRA b0 b1 b2 b3 b4 b5 b6 b7 hf2
                      obtain ⟨A4, e4, hv4⟩ := row_shape hm2.wait
                      subst hv4
                      have HP2 := Lib.hid hp2
                      have HM2 := Lib.hid hm2
                      have HO2 := Lib.hid ho2'
                      clear hp2 hm2 ho2'
                      go_upto_region 15 with (fail)
                      have hp3 := HP2.out.frF ((Fr.refl (fun _ => False) w2).alloc (.cells (bCells r'.lat r'.room (.slice A4 r'.wait.length e4) (.slice A2 r.seen.length e2) (.slice A3 r.shown.length e3) r'.num r'.late r'.closed) 54))
                      have hm3 := HM2.out.frF ((Fr.refl (fun _ => False) w2).alloc (.cells (bCells r'.lat r'.room (.slice A4 r'.wait.length e4) (.slice A2 r.seen.length e2) (.slice A3 r.shown.length e3) r'.num r'.late r'.closed) 54))
                      have ho3 := HO2.out.alloc (.cells (bCells r'.lat r'.room (.slice A4 r'.wait.length e4) (.slice A2 r.seen.length e2) (.slice A3 r.shown.length e3) r'.num r'.late r'.closed) 54)
                      have hN := Blk.new w2 54 (bCells r'.lat r'.room (.slice A4 r'.wait.length e4) (.slice A2 r.seen.length e2) (.slice A3 r.shown.length e3) r'.num r'.late r'.closed)
                      generalize (w2.alloc (.cells (bCells r'.lat r'.room (.slice A4 r'.wait.length e4) (.slice A2 r.seen.length e2) (.slice A3 r.shown.length e3) r'.num r'.late r'.closed) 54)) = w3 at *
                      generalize w2.heap.size = nb at *
                      have HP3 := Lib.hid hp3
                      have HM3 := Lib.hid hm3
                      have HO3 := Lib.hid ho3
                      have HN := Lib.hid hN
                      clear hp3 hm3 ho3 hN
                      go_wp2_with fail
                      refine (flush_any w.heap.size b v s q w3 HP3.out.buf).mono ?_
                      rintro e w4 ⟨v2, o2, t, q2, rfl, ho2, hb4, ht, hr0, hf4, hv4⟩
                      have htk := flush_took HP3.out.rp ht hr0
                      clear hr0
                      rw [← HLE.out, ← HRE.out] at htk
                      obtain ⟨htl, hrp4⟩ := htk
                      have hp4 : PI w w4 b mb x0 x1 k s q v r (.slice A1 r.wait.length e1) (.slice A2 r.seen.length e2) (.slice A3 r.shown.length e3) → True := fun _ => trivial
                      have hN4 := keep_blk HP3.out.buf HN.out (by decide) (by decide) hf4
                      have hB4 := keep_blk HP3.out.buf HP3.out.blk (by decide) (by decide) hf4
                      have hm4 := keep_mem HP3.out.buf HM3.out hf4
                      have ho4 := took_row (keep_row HP3.out.buf HO3.out (by decide) (by decide) hf4) htl
                      have hts : t.size ≤ 1000 := by have := ht.size; have := HP3.out.buf.small; omega
                      have hfr4 : Fr (fun j => w.heap.size ≤ j) w w4 := HP3.out.fr.trans hf4 (fun i hi e => by
                        rcases e with e | e
                        · rw [e]; exact HP3.out.buf.pq.le
                        · exact HP3.out.own _ e)
                      have hown4 : ∀ j, v2.ownBlock = some j → w.heap.size ≤ j := fun j hj => HP3.out.own j (by rw [← hv4]; exact hj)
                      have HSM := Lib.hid (same_any o2 o _ 0 t w4 ho2 ho4 hts)
                      have HRP4 := Lib.hid hrp4
                      have HB4 := Lib.hid hb4
                      have HN4 := Lib.hid hN4
                      have HBM := Lib.hid hB4
                      have HM4 := Lib.hid hm4
                      have HFR4 := Lib.hid hfr4
                      have HOW := Lib.hid hown4
                      clear ht htl hrp4 hp4 hf4 hv4 ho2 ho4 hts hN4 hB4 hm4 hfr4 hown4 hb4
                      go_wp2_with fail
                      refine HSM.out.mono ?_
                      rintro e w5 ⟨rfl, hf5⟩
                      have hN5 := HN4.out.fr hf5 (fun h => h)
                      have hB5 := HBM.out.fr hf5 (fun h => h)
                      obtain ⟨b0, b1, b2, b3, b4, b5, b6, b7⟩ := hN5.cells8
                      obtain ⟨g0, g1, g2, g3, g4, g5, g6, g7⟩ := hB5.free8
                      obtain ⟨y0, y1, y2, y3, y4, y5, y6, y7⟩ := hB5.cells8
                      have hmbl := hB5.lt
                      have HF5 := Lib.hid hf5
                      have HB5 := Lib.hid hB5
                      clear hN5 hB5 hf5 HSM
                      go_wp2_with fail
                      go_meet
                      have B8 := HB5.out.set8 rfl (.int .i64 r'.lat) (.int .i64 r'.room) (.slice A4 r'.wait.length e4) (.slice A2 r.seen.length e2) (.slice A3 r.shown.length e3) (.int .i64 r'.num) (.int .i64 r'.late) (.bool r'.closed)
                      have hpn : PI w ((((((((w5.setCell ⟨mb, 0, none⟩ (.int .i64 r'.lat)).setCell ⟨mb, 1, none⟩ (.int .i64 r'.room)).setCell ⟨mb, 2, none⟩ (.slice A4 r'.wait.length e4)).setCell ⟨mb, 3, none⟩ (.slice A2 r.seen.length e2)).setCell ⟨mb, 4, none⟩ (.slice A3 r.shown.length e3)).setCell ⟨mb, 5, none⟩ (.int .i64 r'.num)).setCell ⟨mb, 6, none⟩ (.int .i64 r'.late)).setCell ⟨mb, 7, none⟩ (.bool r'.closed)) b mb x0 x1 (k + 1) { s with closed := true } q2 v2 r' (.slice A4 r'.wait.length e4) (.slice A2 r.seen.length e2) (.slice A3 r.shown.length e3) :=
                        ⟨HRP4.out, by rw [HRE.out]; exact HP3.out.lat, by rw [HRE.out]; exact HP3.out.room, keep_buf (HB4.out.frF HF5.out) HB5.out B8.2, B8.1, keep_mem54 HB5.out (HM4.out.frF HF5.out) B8.2,
                          (HFR4.out.trans HF5.out (fun _ _ h => h.elim)).trans B8.2 (fun i hi e => by have := HP3.out.le; omega), HOW.out, HP3.out.le⟩
                      exact ⟨_, q2, v2, r', _, _, _, hpn⟩
      case rest =>
        obtain ⟨s2, q2, v2, r2, vw2, vs2, vc2, hp2⟩ := hcut
        obtain ⟨A4, e4, hv4⟩ := row_shape hp2.mem.wait
        obtain ⟨A5, e5, hv5⟩ := row_shape hp2.mem.seen
        obtain ⟨A6, e6, hv6⟩ := row_shape hp2.mem.shown
        subst hv4 hv5 hv6
        obtain ⟨b0, b1, b2, b3, b4, b5, b6, b7⟩ := hp2.blk.cells8
        have HP2 := Lib.hid hp2
        clear hp2 hpy hA
        go_wp2_with fail
        refine (is_any w.heap.size b 0 v2 s2 q2 (k + 1) r2 _ _ _ wc HP2.out.buf (Nat.zero_le _) HP2.out.mem HP2.out.rp (by omega) (by rw [HP2.out.lat]; exact h0) (by rw [HP2.out.lat]; exact h1)).mono ?_
        rintro e w5 ⟨rfl, hf5⟩
        have hp5 := HP2.out.frF hf5
        have HP5 := Lib.hid hp5
        clear hp5 hf5 b0 b1 b2 b3 b4 b5 b6 b7
        go_wp2_with fail
        go_roundw
        case rel => exact ⟨k + 1, s2, q2, v2, r2, _, _, _, by go_num, by omega, HP5.out⟩
        case measure => simp [intOf]; omega
    · have hge : (len1 : Int) ≤ (k : Int) := by omega
      have HPI := Lib.hid hpi
      clear w1 hpi
      go_wp2_with fail
      go_ret
      exact ⟨rfl, HPI.out.fr.below (Nat.le_refl _) (fun _ h => h)⟩

end Go.Proofs.Ytgcmdoinihehcaa
