/- A part of the proofs over a buffer of what comes late: contracts of the functions, each by a walk. -/
import Derived.Test.YtgcmdoinihehcaaWk
import Derived.Test.YtgcmdoinihehcaaAc
import Derived.Test.YtgcmdoinihehcaaBi
import Derived.WalkKit
import Derived.WalkLawsBesides
import Derived.WalkSpells
import Derived.Deep.QuietTactic
import Derived.BigRegion
import Derived.BigQuiet
import Derived.Lib.Hide
import Derived.Outline
import Derived.Deep.AppendLies
import Derived.Deep.RegionLaw
import Derived.Deep.RegionWith
import Derived.Deep.RegionHeld3
import Derived.Deep.LoopGhost
import Derived.Deep.DeepFit
import Derived.Laws.ResultCell
import Derived.Deep.MidRow
import Derived.StillTailTactics
import Derived.OpenShut
namespace Go.Proofs.Ytgcmdoinihehcaa
set_option linter.unusedVariables false
open Go.RowKit Go

theorem Fr.toBelow {w w' : World} (h : Fr (fun k => w.heap.size ≤ k) w w') : Below w.heap.size w w' := h.below (Nat.le_refl _) fun _ h => h
theorem IsBuf.fr {S : Nat → Prop} {w w' : World} {B b : Nat} {v : Value} {s : St} {q : Array Item} (h : IsBuf w B b v s q) (hf : Fr S w w') (h1 : ¬ S b) (h2 : ∀ k, v.ownBlock = some k → ¬ S k) : IsBuf w' B b v s q :=
  ⟨h.pq.fr hf h1 h2, h.heap, h.small⟩
theorem IsBuf.frF {w w' : World} {B b : Nat} {v : Value} {s : St} {q : Array Item} (h : IsBuf w B b v s q) (hf : Fr (fun _ => False) w w') : IsBuf w' B b v s q := h.fr hf (fun h => h) (fun _ _ h => h)

/-- A state behind a call that lets come, or shows a clock. -/
structure Stepped_ (B b n : Nat) (lat room : Int) (k : Nat) (w w' : World) (s s' : St) (v' : Value) (q' : Array Item) : Prop where
  bi : BI lat room (k + 1) s' q'
  buf : IsBuf w' B b v' s' q'
  mono : s.marked = true → s'.marked = true ∧ s.mark ≤ s'.mark
  fr : Fr (fun k => n ≤ k) w w'
  own : ∀ k, v'.ownBlock = some k → n ≤ k

theorem Pushed.stepped {w w' : World} {B b n : Nat} {v v' : Value} {s : St} {q q' : Array Item} {t k0 k1 k2 : Int} {lat room : Int} {k : Nat} (h : Pushed w w' B b v s q t k0 k1 k2 v' q') (hb : BI lat room k s q) (h0 : 0 ≤ lat) (hn : n ≤ b) (hv : ∀ k, v.ownBlock = some k → n ≤ k) (hw : n ≤ w.heap.size) :
    Stepped_ B b n lat room k w w' s (pushSt s q.size t) v' q' :=
  have F := h.frame hn hv hw
  ⟨hb.push h0 (fun hc => by have := h.wait; rw [if_neg hc] at this; exact this), h.buf, pushSt_mono s q.size t, F.1, F.2⟩

theorem marks_long (a0 : Int) (a1 : Option Addr) (len1 cap1 : Nat) (w : World) (hl : 60 < len1) :
    Calls Try.prog 6 #[.int .u8 a0, .slice a1 len1 cap1] w fun e w' => e = .returned (.bool true) ∧ Below w.heap.size w w' := by
  go_enter Try.func6, Try.ntmps6
  go_wp2_with fail
  refine (awake_any w).mono ?_
  rintro e w1 ⟨rfl, hf⟩
  go_wp2_with fail
  refine (awake_any w1).mono ?_
  rintro e w2 ⟨rfl, hf2⟩
  go_wp2_with fail
  go_ret
  exact ⟨rfl, (hf.trans' hf2).below (Nat.le_refl _) fun _ h => h.elim⟩

set_option maxRecDepth 100000 in
set_option maxHeartbeats 4000000 in
theorem marks_walk (a0 : Int) (a1 : Option Addr) (len1 cap1 : Nat) (z1 : List Act) (w : World) (w0 : (Lit.int .u8 a0).wf = true) (w1 : IsActs w a1 len1 cap1 z1) :
    Calls Try.prog 6 #[.int .u8 a0, .slice a1 len1 cap1] w fun e w' => e = .returned (.bool true) ∧ Below w.heap.size w w' := by
  by_cases hl : 60 < len1
  · exact marks_long a0 a1 len1 cap1 w hl
  have hl' : len1 ≤ 60 := by omega
  have ha : 0 ≤ a0 ∧ a0 ≤ 255 := bounds_u8 w0
  obtain ⟨ha0, ha1⟩ := ha
  clear hl w0
  go_enter Try.func6, Try.ntmps6
  go_wp2_with fail
  refine (awake_any w).mono ?_
  rintro e wa ⟨rfl, hfa⟩
  go_wp2_with fail
  refine (new_ok a0 1000 wa ha0 (by omega) (by omega) (by omega)).mono ?_
  rintro e wb ⟨rfl, rfl⟩
  have hb0 := newBuf wa w.heap.size hfa.size a0 1000
  have hfb : Fr (fun k => w.heap.size ≤ k) w (wa.alloc (.cells (bufCells (.slice none 0 0) (newSt a0 1000)) 65)) := ((hfa.mono fun _ _ h => h.elim).alloc _)
  have hbn := hfa.size
  generalize (wa.alloc (.cells (bufCells (.slice none 0 0) (newSt a0 1000)) 65)) = wb at *
  generalize wa.heap.size = b at *
  clear hfa
  go_wp2_with fail
  go_loopw [7, 8, 33] (fun hv sv iv wr => ∃ (k : Nat) (s : St) (q : Array Item) (v : Value), hv = .int .i64 s.mark ∧ sv = .bool s.marked ∧ iv = .int .i64 (k : Int) ∧ k ≤ len1 ∧
      BI a0 1000 k s q ∧ (∀ y ∈ q.toList, s.mark ≤ y.t) ∧ IsBuf wr w.heap.size b v s q ∧ Fr (fun k => w.heap.size ≤ k) w wr ∧ (∀ k, v.ownBlock = some k → w.heap.size ≤ k)) (fun _ _ iv _ => len1 - (intOf iv).toNat)
  case atStart => exact ⟨0, newSt a0 1000, #[], .slice none 0 0, rfl, rfl, rfl, Nat.zero_le _, BI.start ha0, by simp, hb0, hfb, by simp [Value.ownBlock]⟩
  case round =>
    obtain ⟨k, s, q, v, rfl, rfl, rfl, hk, hr, hall, hb, hf, hv⟩ := hrel
    have hfit := hr.fit ha0 (by omega) (by omega) (by omega)
    have hsz := hf.size
    clear hb0 hfb
    by_cases hlt : k < len1
    · obtain ⟨xb, xo, rfl, hle, hxb, hc⟩ := w1.at_ hlt
      have hc' := hc.keep (hf.block xb hxb (by omega))
      clear hc w1
      generalize z1.getD k default = x at *
      obtain ⟨c0, c1, c2, c3, c4, wk, wt⟩ := hc'
      have hlt' : (k : Int) < (len1 : Int) := by omega
      have HA := Lib.hid hall
      clear hall
      obtain ⟨wk0, wk1⟩ := wk
      by_cases hkind : x.kind % 8 = 4
      · have hk8 : (x.kind % 8 == 4) = true := by simp [hkind]
        clear hkind
        cases hmk : s.marked with
        | true =>
          have hmk0 := Lib.hid hmk
          go_wp2_with fail
          refine (tick_any w.heap.size b v s q x.time _ (hb.frF ((Fr.refl _ _).alloc _)) hfit).mono ?_
          rintro e w2 ⟨rfl, hb2', hf2'⟩
          have hst : Stepped_ w.heap.size b w.heap.size a0 1000 k wr w2 s (tickSt s x.time) v q := ⟨hr.tick ha0, hb2', tickSt_mono s x.time, ((Fr.refl _ _).alloc _).trans (hf2'.mono (fun _ _ e => by omega)) (fun _ _ h => h), hv⟩
          clear hb2' hf2'
          obtain ⟨v2, hv2e⟩ : ∃ v2, v2 = v := ⟨_, rfl⟩
          obtain ⟨q2, hq2e⟩ : ∃ q2, q2 = q := ⟨_, rfl⟩
          rw [← hv2e, ← hq2e] at hst
          clear hv2e hq2e
          generalize tickSt s x.time = s2 at *
          generalize tickCode s x.time = code at *
          obtain ⟨hbi2, hb2, hmono, hf2, hv2⟩ := hst
          have hf02 := hf.trans' hf2
          have hsz2 := hf2.size
          clear hb hf hv hr hfit c0 c1 c2 c3 c4 hf2
          obtain ⟨hm1, hm2⟩ := hmono hmk0.out
          clear hmono
          go_wp2_with fail
          refine (mark_any b v2 s2 w2 hb2.pq.blk).mono ?_
          rw [hm1]
          rintro e w3 ⟨rfl, nn, rfl⟩
          have hb3 : IsBuf (w2.drewN nn) w.heap.size b v2 s2 q2 := ⟨hb2.pq.drewN nn, hb2.heap, hb2.small⟩
          have hf3 := hf02.drewN nn
          have hsz3 : w.heap.size ≤ (w2.drewN nn).heap.size := by show _ ≤ w2.heap.size; omega
          clear hb2 hf02
          generalize w2.drewN nn = w3 at *
          go_wp2_with fail
          refine (take_any w.heap.size b v2 s2 q2 w3 hb3).mono ?_
          rintro e w4 ⟨v4, o, t, r, rfl, ho, hb4, ht, htm, hrm, hf4, hv4⟩
          have hf04 : Fr (fun k => w.heap.size ≤ k) w w4 := hf3.trans hf4 (fun i hi e => by
            rcases e with e | e
            · omega
            · exact hv2 _ e)
          have hv04 : ∀ k, v4.ownBlock = some k → w.heap.size ≤ k := fun k hk => hv2 k (by rw [← hv4]; exact hk)
          have hbi4 := hbi2.take ht
          have hts := ht.size
          have hsm := hb3.small
          obtain ⟨A, c, hov⟩ := ho.shape
          have hsz4 := hf04.size
          have HRM := Lib.hid hrm
          have HTM := Lib.hid htm
          have HO := Lib.hid hov
          have hmt : 0 < t.size → s2.marked = true := fun h0 => by
            cases hmm : s2.marked with
            | true => rfl
            | false => have := (hbi2.empty hmm).1; omega
          have HMT := Lib.hid hmt
          have htl : t.size ≤ 1000 := by omega
          clear hb3 hf3 hf4 hv4 hbi2 hrm htm ht hts hmt
          rw [hov]
          clear hov
          go_wp2_with fail
          go_loopw [71] (fun jv wi => ∃ (j : Nat), jv = .int .i64 (j : Int) ∧ j ≤ t.size ∧ Fr (fun _ => False) w4 wi) (fun jv _ => t.size - (intOf jv).toNat)
          case atStart => exact ⟨0, rfl, by omega, Fr.refl _ _⟩
          case round =>
            obtain ⟨j, rfl, hj, hfi⟩ := hrel
            by_cases hjl : j < t.size
            · have hjl' : (j : Int) < (t.size : Int) := by omega
              have hmk2 : s2.marked = true := HMT.out (by omega)
              have hoi : QRow wr w3.heap.size o t := ho.fr hfi (fun _ _ h => h)
              obtain ⟨g, c', hog, -, -⟩ := hoi.form (by omega)
              rw [hog] at hoi
              obtain ⟨d0, d1, d2, d3, d4⟩ := hoi.cells hjl
              have hlt3 := HTM.out t[j]! (by rw [getElem!_pos t j hjl]; simp)
              have hAe : A = some ⟨g, 0, none⟩ := by
                have h1 := HO.out.symm.trans hog
                injection h1
              subst hAe
              have hcc : t.size ≤ c := by
                rcases ho.2 with ⟨h1, h2⟩ | ⟨g', cap', cur, h1, _, _, h2, _⟩
                · omega
                · rw [HO.out] at h1
                  injection h1 with _ _ h3
                  omega
              generalize t[j]! = y at *
              clear hoi hog
              go_wp2_with fail
              go_roundw
              case rel => exact ⟨j + 1, by go_num, by omega, hfi.alloc _⟩
              case measure => simp [intOf]; omega
            · have hje : (t.size : Int) ≤ (j : Int) := by omega
              go_wp2_with fail
              go_roundw
              case rel => exact ⟨k + 1, s2, r, v4, rfl, by first | rfl | rw [hm1], by go_num, by omega, hbi4, HRM.out, hb4.frF hfi, hf04.trans' (hfi.mono fun _ _ h => h.elim), hv04⟩
              case measure => simp [intOf]; omega
        | false =>
          have hmk0 := Lib.hid hmk
          go_wp2_with fail
          refine (tick_any w.heap.size b v s q x.time _ (hb.frF ((Fr.refl _ _).alloc _)) hfit).mono ?_
          rintro e w2 ⟨rfl, hb2', hf2'⟩
          have hst : Stepped_ w.heap.size b w.heap.size a0 1000 k wr w2 s (tickSt s x.time) v q := ⟨hr.tick ha0, hb2', tickSt_mono s x.time, ((Fr.refl _ _).alloc _).trans (hf2'.mono (fun _ _ e => by omega)) (fun _ _ h => h), hv⟩
          clear hb2' hf2'
          obtain ⟨v2, hv2e⟩ : ∃ v2, v2 = v := ⟨_, rfl⟩
          obtain ⟨q2, hq2e⟩ : ∃ q2, q2 = q := ⟨_, rfl⟩
          rw [← hv2e, ← hq2e] at hst
          clear hv2e hq2e
          generalize tickSt s x.time = s2 at *
          generalize tickCode s x.time = code at *
          obtain ⟨hbi2, hb2, hmono, hf2, hv2⟩ := hst
          have hf02 := hf.trans' hf2
          have hsz2 := hf2.size
          clear hb hf hv hr hfit c0 c1 c2 c3 c4 hf2
          clear hmono
          go_wp2_with fail
          refine (mark_any b v2 s2 w2 hb2.pq.blk).mono ?_
          rintro e w3 ⟨rfl, nn, rfl⟩
          have hb3 : IsBuf (w2.drewN nn) w.heap.size b v2 s2 q2 := ⟨hb2.pq.drewN nn, hb2.heap, hb2.small⟩
          have hf3 := hf02.drewN nn
          have hsz3 : w.heap.size ≤ (w2.drewN nn).heap.size := by show _ ≤ w2.heap.size; omega
          clear hb2 hf02
          generalize w2.drewN nn = w3 at *
          go_wp2_with fail
          refine (take_any w.heap.size b v2 s2 q2 w3 hb3).mono ?_
          rintro e w4 ⟨v4, o, t, r, rfl, ho, hb4, ht, htm, hrm, hf4, hv4⟩
          have hf04 : Fr (fun k => w.heap.size ≤ k) w w4 := hf3.trans hf4 (fun i hi e => by
            rcases e with e | e
            · omega
            · exact hv2 _ e)
          have hv04 : ∀ k, v4.ownBlock = some k → w.heap.size ≤ k := fun k hk => hv2 k (by rw [← hv4]; exact hk)
          have hbi4 := hbi2.take ht
          have hts := ht.size
          have hsm := hb3.small
          obtain ⟨A, c, hov⟩ := ho.shape
          have hsz4 := hf04.size
          have HRM := Lib.hid hrm
          have HTM := Lib.hid htm
          have HO := Lib.hid hov
          have hmt : 0 < t.size → s2.marked = true := fun h0 => by
            cases hmm : s2.marked with
            | true => rfl
            | false => have := (hbi2.empty hmm).1; omega
          have HMT := Lib.hid hmt
          have htl : t.size ≤ 1000 := by omega
          clear hb3 hf3 hf4 hv4 hbi2 hrm htm ht hts hmt
          rw [hov]
          clear hov
          go_wp2_with fail
          go_loopw [71] (fun jv wi => ∃ (j : Nat), jv = .int .i64 (j : Int) ∧ j ≤ t.size ∧ Fr (fun _ => False) w4 wi) (fun jv _ => t.size - (intOf jv).toNat)
          case atStart => exact ⟨0, rfl, by omega, Fr.refl _ _⟩
          case round =>
            obtain ⟨j, rfl, hj, hfi⟩ := hrel
            by_cases hjl : j < t.size
            · have hjl' : (j : Int) < (t.size : Int) := by omega
              have hmk2 : s2.marked = true := HMT.out (by omega)
              have hoi : QRow wr w3.heap.size o t := ho.fr hfi (fun _ _ h => h)
              obtain ⟨g, c', hog, -, -⟩ := hoi.form (by omega)
              rw [hog] at hoi
              obtain ⟨d0, d1, d2, d3, d4⟩ := hoi.cells hjl
              have hlt3 := HTM.out t[j]! (by rw [getElem!_pos t j hjl]; simp)
              have hAe : A = some ⟨g, 0, none⟩ := by
                have h1 := HO.out.symm.trans hog
                injection h1
              subst hAe
              have hcc : t.size ≤ c := by
                rcases ho.2 with ⟨h1, h2⟩ | ⟨g', cap', cur, h1, _, _, h2, _⟩
                · omega
                · rw [HO.out] at h1
                  injection h1 with _ _ h3
                  omega
              generalize t[j]! = y at *
              clear hoi hog
              go_wp2_with fail
              go_roundw
              case rel => exact ⟨j + 1, by go_num, by omega, hfi.alloc _⟩
              case measure => simp [intOf]; omega
            · have hje : (t.size : Int) ≤ (j : Int) := by omega
              go_wp2_with fail
              go_roundw
              case rel => exact ⟨k + 1, s2, r, v4, rfl, by first | rfl | rw [hm1], by go_num, by omega, hbi4, HRM.out, hb4.frF hfi, hf04.trans' (hfi.mono fun _ _ h => h.elim), hv04⟩
              case measure => simp [intOf]; omega
      · have hk8 : (x.kind % 8 == 4) = false := by simp [hkind]
        clear hkind
        cases hmk : s.marked with
        | true =>
          have hmk0 := Lib.hid hmk
          go_wp2_with fail
          refine (pushB w.heap.size b v s q x.time x.k0 x.k1 x.k2 _ (hb.frF ((Fr.refl _ _).alloc _)) hfit).mono ?_
          rintro e w2 ⟨v2, q2, rfl, hp2⟩
          have hst' := hp2.stepped hr ha0 hb.pq.le hv (by simp; omega)
          have hst : Stepped_ w.heap.size b w.heap.size a0 1000 k wr w2 s (pushSt s q.size x.time) v2 q2 := ⟨hst'.bi, hst'.buf, hst'.mono, ((Fr.refl _ _).alloc _).trans hst'.fr (fun _ _ h => h), hst'.own⟩
          clear hp2 hst'
          generalize pushSt s q.size x.time = s2 at *
          generalize pushCode s q.size x.time = code at *
          obtain ⟨hbi2, hb2, hmono, hf2, hv2⟩ := hst
          have hf02 := hf.trans' hf2
          have hsz2 := hf2.size
          clear hb hf hv hr hfit c0 c1 c2 c3 c4 hf2
          obtain ⟨hm1, hm2⟩ := hmono hmk0.out
          clear hmono
          go_wp2_with fail
          refine (mark_any b v2 s2 w2 hb2.pq.blk).mono ?_
          rw [hm1]
          rintro e w3 ⟨rfl, nn, rfl⟩
          have hb3 : IsBuf (w2.drewN nn) w.heap.size b v2 s2 q2 := ⟨hb2.pq.drewN nn, hb2.heap, hb2.small⟩
          have hf3 := hf02.drewN nn
          have hsz3 : w.heap.size ≤ (w2.drewN nn).heap.size := by show _ ≤ w2.heap.size; omega
          clear hb2 hf02
          generalize w2.drewN nn = w3 at *
          go_wp2_with fail
          refine (take_any w.heap.size b v2 s2 q2 w3 hb3).mono ?_
          rintro e w4 ⟨v4, o, t, r, rfl, ho, hb4, ht, htm, hrm, hf4, hv4⟩
          have hf04 : Fr (fun k => w.heap.size ≤ k) w w4 := hf3.trans hf4 (fun i hi e => by
            rcases e with e | e
            · omega
            · exact hv2 _ e)
          have hv04 : ∀ k, v4.ownBlock = some k → w.heap.size ≤ k := fun k hk => hv2 k (by rw [← hv4]; exact hk)
          have hbi4 := hbi2.take ht
          have hts := ht.size
          have hsm := hb3.small
          obtain ⟨A, c, hov⟩ := ho.shape
          have hsz4 := hf04.size
          have HRM := Lib.hid hrm
          have HTM := Lib.hid htm
          have HO := Lib.hid hov
          have hmt : 0 < t.size → s2.marked = true := fun h0 => by
            cases hmm : s2.marked with
            | true => rfl
            | false => have := (hbi2.empty hmm).1; omega
          have HMT := Lib.hid hmt
          have htl : t.size ≤ 1000 := by omega
          clear hb3 hf3 hf4 hv4 hbi2 hrm htm ht hts hmt
          rw [hov]
          clear hov
          go_wp2_with fail
          go_loopw [71] (fun jv wi => ∃ (j : Nat), jv = .int .i64 (j : Int) ∧ j ≤ t.size ∧ Fr (fun _ => False) w4 wi) (fun jv _ => t.size - (intOf jv).toNat)
          case atStart => exact ⟨0, rfl, by omega, Fr.refl _ _⟩
          case round =>
            obtain ⟨j, rfl, hj, hfi⟩ := hrel
            by_cases hjl : j < t.size
            · have hjl' : (j : Int) < (t.size : Int) := by omega
              have hmk2 : s2.marked = true := HMT.out (by omega)
              have hoi : QRow wr w3.heap.size o t := ho.fr hfi (fun _ _ h => h)
              obtain ⟨g, c', hog, -, -⟩ := hoi.form (by omega)
              rw [hog] at hoi
              obtain ⟨d0, d1, d2, d3, d4⟩ := hoi.cells hjl
              have hlt3 := HTM.out t[j]! (by rw [getElem!_pos t j hjl]; simp)
              have hAe : A = some ⟨g, 0, none⟩ := by
                have h1 := HO.out.symm.trans hog
                injection h1
              subst hAe
              have hcc : t.size ≤ c := by
                rcases ho.2 with ⟨h1, h2⟩ | ⟨g', cap', cur, h1, _, _, h2, _⟩
                · omega
                · rw [HO.out] at h1
                  injection h1 with _ _ h3
                  omega
              generalize t[j]! = y at *
              clear hoi hog
              go_wp2_with fail
              go_roundw
              case rel => exact ⟨j + 1, by go_num, by omega, hfi.alloc _⟩
              case measure => simp [intOf]; omega
            · have hje : (t.size : Int) ≤ (j : Int) := by omega
              go_wp2_with fail
              go_roundw
              case rel => exact ⟨k + 1, s2, r, v4, rfl, by first | rfl | rw [hm1], by go_num, by omega, hbi4, HRM.out, hb4.frF hfi, hf04.trans' (hfi.mono fun _ _ h => h.elim), hv04⟩
              case measure => simp [intOf]; omega
        | false =>
          have hmk0 := Lib.hid hmk
          go_wp2_with fail
          refine (pushB w.heap.size b v s q x.time x.k0 x.k1 x.k2 _ (hb.frF ((Fr.refl _ _).alloc _)) hfit).mono ?_
          rintro e w2 ⟨v2, q2, rfl, hp2⟩
          have hst' := hp2.stepped hr ha0 hb.pq.le hv (by simp; omega)
          have hst : Stepped_ w.heap.size b w.heap.size a0 1000 k wr w2 s (pushSt s q.size x.time) v2 q2 := ⟨hst'.bi, hst'.buf, hst'.mono, ((Fr.refl _ _).alloc _).trans hst'.fr (fun _ _ h => h), hst'.own⟩
          clear hp2 hst'
          generalize pushSt s q.size x.time = s2 at *
          generalize pushCode s q.size x.time = code at *
          obtain ⟨hbi2, hb2, hmono, hf2, hv2⟩ := hst
          have hf02 := hf.trans' hf2
          have hsz2 := hf2.size
          clear hb hf hv hr hfit c0 c1 c2 c3 c4 hf2
          clear hmono
          go_wp2_with fail
          refine (mark_any b v2 s2 w2 hb2.pq.blk).mono ?_
          rintro e w3 ⟨rfl, nn, rfl⟩
          have hb3 : IsBuf (w2.drewN nn) w.heap.size b v2 s2 q2 := ⟨hb2.pq.drewN nn, hb2.heap, hb2.small⟩
          have hf3 := hf02.drewN nn
          have hsz3 : w.heap.size ≤ (w2.drewN nn).heap.size := by show _ ≤ w2.heap.size; omega
          clear hb2 hf02
          generalize w2.drewN nn = w3 at *
          go_wp2_with fail
          refine (take_any w.heap.size b v2 s2 q2 w3 hb3).mono ?_
          rintro e w4 ⟨v4, o, t, r, rfl, ho, hb4, ht, htm, hrm, hf4, hv4⟩
          have hf04 : Fr (fun k => w.heap.size ≤ k) w w4 := hf3.trans hf4 (fun i hi e => by
            rcases e with e | e
            · omega
            · exact hv2 _ e)
          have hv04 : ∀ k, v4.ownBlock = some k → w.heap.size ≤ k := fun k hk => hv2 k (by rw [← hv4]; exact hk)
          have hbi4 := hbi2.take ht
          have hts := ht.size
          have hsm := hb3.small
          obtain ⟨A, c, hov⟩ := ho.shape
          have hsz4 := hf04.size
          have HRM := Lib.hid hrm
          have HTM := Lib.hid htm
          have HO := Lib.hid hov
          have hmt : 0 < t.size → s2.marked = true := fun h0 => by
            cases hmm : s2.marked with
            | true => rfl
            | false => have := (hbi2.empty hmm).1; omega
          have HMT := Lib.hid hmt
          have htl : t.size ≤ 1000 := by omega
          clear hb3 hf3 hf4 hv4 hbi2 hrm htm ht hts hmt
          rw [hov]
          clear hov
          go_wp2_with fail
          go_loopw [71] (fun jv wi => ∃ (j : Nat), jv = .int .i64 (j : Int) ∧ j ≤ t.size ∧ Fr (fun _ => False) w4 wi) (fun jv _ => t.size - (intOf jv).toNat)
          case atStart => exact ⟨0, rfl, by omega, Fr.refl _ _⟩
          case round =>
            obtain ⟨j, rfl, hj, hfi⟩ := hrel
            by_cases hjl : j < t.size
            · have hjl' : (j : Int) < (t.size : Int) := by omega
              have hmk2 : s2.marked = true := HMT.out (by omega)
              have hoi : QRow wr w3.heap.size o t := ho.fr hfi (fun _ _ h => h)
              obtain ⟨g, c', hog, -, -⟩ := hoi.form (by omega)
              rw [hog] at hoi
              obtain ⟨d0, d1, d2, d3, d4⟩ := hoi.cells hjl
              have hlt3 := HTM.out t[j]! (by rw [getElem!_pos t j hjl]; simp)
              have hAe : A = some ⟨g, 0, none⟩ := by
                have h1 := HO.out.symm.trans hog
                injection h1
              subst hAe
              have hcc : t.size ≤ c := by
                rcases ho.2 with ⟨h1, h2⟩ | ⟨g', cap', cur, h1, _, _, h2, _⟩
                · omega
                · rw [HO.out] at h1
                  injection h1 with _ _ h3
                  omega
              generalize t[j]! = y at *
              clear hoi hog
              go_wp2_with fail
              go_roundw
              case rel => exact ⟨j + 1, by go_num, by omega, hfi.alloc _⟩
              case measure => simp [intOf]; omega
            · have hje : (t.size : Int) ≤ (j : Int) := by omega
              go_wp2_with fail
              go_roundw
              case rel => exact ⟨k + 1, s2, r, v4, rfl, by first | rfl | rw [hm1], by go_num, by omega, hbi4, HRM.out, hb4.frF hfi, hf04.trans' (hfi.mono fun _ _ h => h.elim), hv04⟩
              case measure => simp [intOf]; omega
    · have hge : (len1 : Int) ≤ (k : Int) := by omega
      have hmt : ∀ y ∈ q.toList, s.marked = true := fun y hy => by
        cases hmm : s.marked with
        | true => rfl
        | false =>
          have h0 := (hr.empty hmm).1
          have : q.toList = [] := List.eq_nil_of_length_eq_zero (by simpa using h0)
          rw [this] at hy
          cases hy
      have HMT := Lib.hid hmt
      have HA := Lib.hid hall
      have HBI := Lib.hid hr
      clear hmt hall hr hfit w1 hk hlt
      go_wp2_with fail
      refine (flush_any w.heap.size b v s q wr hb).mono ?_
      rintro e w4 ⟨v4, o, t, r, rfl, ho, hb4, ht, hr0, hf4, hv4⟩
      have hf04 : Fr (fun k => w.heap.size ≤ k) w w4 := hf.trans hf4 (fun i hi e => by
        rcases e with e | e
        · omega
        · exact hv _ e)
      have hts := ht.size
      have hsm := hb.small
      obtain ⟨A, c, hov⟩ := ho.shape
      have hsz4 := hf04.size
      have HO := Lib.hid hov
      have hin : ∀ j, j < t.size → t[j]! ∈ q.toList := fun j hj => ht.perm.subset (List.mem_append_left _ (by rw [getElem!_pos t j hj]; simp))
      have HIN := Lib.hid hin
      have HR0 := Lib.hid hr0
      have htl : t.size ≤ 1000 := by omega
      clear hb hf hf4 hv4 ht hts hin hr0
      rw [hov]
      clear hov
      go_wp2_with fail
      go_loopw [88] (fun jv wi => ∃ (j : Nat), jv = .int .i64 (j : Int) ∧ j ≤ t.size ∧ Fr (fun _ => False) w4 wi) (fun jv _ => t.size - (intOf jv).toNat)
      case atStart => exact ⟨0, rfl, by omega, Fr.refl _ _⟩
      case round =>
        obtain ⟨j, rfl, hj, hfi⟩ := hrel
        by_cases hjl : j < t.size
        · have hjl' : (j : Int) < (t.size : Int) := by omega
          have hmem := HIN.out j hjl
          have hmk2 : s.marked = true := HMT.out _ hmem
          have hge3 := HA.out _ hmem
          have hoi : QRow wr _ o t := ho.fr hfi (fun _ _ h => h)
          obtain ⟨g, c', hog, -, -⟩ := hoi.form (by omega)
          rw [hog] at hoi
          obtain ⟨d0, d1, d2, d3, d4⟩ := hoi.cells hjl
          have hAe : A = some ⟨g, 0, none⟩ := by
            have h1 := HO.out.symm.trans hog
            injection h1
          subst hAe
          have hcc : t.size ≤ c := by
            rcases ho.2 with ⟨h1, h2⟩ | ⟨g', cap', cur, h1, _, _, h2, _⟩
            · omega
            · rw [HO.out] at h1
              injection h1 with _ _ h3
              omega
          generalize t[j]! = y at *
          clear hoi hog hmem
          go_wp2_with fail
          go_roundw
          case rel => exact ⟨j + 1, by go_num, by omega, hfi.alloc _⟩
          case measure => simp [intOf]; omega
        · have hje : (t.size : Int) ≤ (j : Int) := by omega
          have hb5 := hb4.frF hfi
          go_wp2_with fail
          refine (blen_any _ b v4 _ r wr hb5).mono ?_
          rw [HR0.out]
          rintro e w5 ⟨rfl, rfl⟩
          go_wp2_with fail
          go_ret
          exact ⟨rfl, (hf04.trans' (hfi.mono fun _ _ h => h.elim)).toBelow⟩

end Go.Proofs.Ytgcmdoinihehcaa
