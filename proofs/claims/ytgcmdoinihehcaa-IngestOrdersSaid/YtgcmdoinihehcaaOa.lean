/- The walk of IngestOrders. -/
import Derived.Test.YtgcmdoinihehcaaWk
import Derived.Test.YtgcmdoinihehcaaAc
import Derived.Test.YtgcmdoinihehcaaOp
import Derived.Test.YtgcmdoinihehcaaLa
import Derived.Test.YtgcmdoinihehcaaRw
import Derived.WalkKit
import Derived.WalkLawsBesides
import Derived.WalkSpells
import Derived.Deep.QuietTactic
import Derived.BigRegion
import Derived.BigQuiet
import Derived.Lib.Hide
import Derived.Outline
import Derived.Deep.AppendLies
import Derived.Deep.RegionLaw
import Derived.Deep.RegionWith
import Derived.Deep.RegionHeld3
import Derived.Deep.LoopGhost
import Derived.Deep.DeepFit
import Derived.Laws.ResultCell
import Derived.Deep.MidRow
import Derived.StillTailTactics
import Derived.OpenShut
namespace Go.Proofs.Ytgcmdoinihehcaa
set_option linter.unusedVariables false
open Go.RowKit Go

set_option maxRecDepth 100000 in
theorem orders_short (a1 : Option Addr) (len1 cap1 : Nat) (a0 : Int) (w : World) (hl : 100 < len1 ∨ len1 = 0) :
    Calls Try.prog 4 #[.slice a1 len1 cap1, .int .u8 a0] w fun e w' => e = .returned (.bool true) ∧ Below w.heap.size w w' := by
  rcases hl with hl | hl
  · go_enter Try.func4, Try.ntmps4
    go_wp2_with fail
    refine (awake_any w).mono ?_
    rintro e w1 ⟨rfl, hf⟩
    go_wp2_with fail
    refine (awake_any w1).mono ?_
    rintro e w2 ⟨rfl, hf2⟩
    go_wp2_with fail
    go_ret
    exact ⟨rfl, (hf.trans' hf2).below (Nat.le_refl _) fun _ h => h.elim⟩
  · subst hl
    go_enter Try.func4, Try.ntmps4
    go_wp2_with fail
    refine (awake_any w).mono ?_
    rintro e w1 ⟨rfl, hf⟩
    go_wp2_with fail
    refine (awake_any w1).mono ?_
    rintro e w2 ⟨rfl, hf2⟩
    go_wp2_with fail
    go_ret
    exact ⟨rfl, (hf.trans' hf2).below (Nat.le_refl _) fun _ h => h.elim⟩

theorem Fr.old {n : Nat} {w w' : World} (h : Fr (fun k => n ≤ k) w w') {a : Addr} (ha : a.block < n) (hn : n ≤ w.heap.size) : w'.cell? a = w.cell? a := World.cell?_of_block (h.block a.block (by omega) (by omega))

def f1 (z : List Int) (i : Nat) : Item := ⟨z.getD i 0, i, i, 0, 0⟩
def f2 (z : List Int) (tr n : Nat) (i : Nat) : Item := ⟨z.getD ((i + tr) % n) 0, i, ((i + tr) % n : Nat), 0, 0⟩

structure OW (n0 b1 b2 : Nat) (f g : Nat → Item) (w wr : World) (k : Nat) (s1 : St) (q1 : Array Item) (v1 : Value) (s2 : St) (q2 : Array Item) (v2 : Value) : Prop where
  l1 : Fill f k s1 q1
  l2 : Fill g k s2 q2
  buf1 : IsBuf wr n0 b1 v1 s1 q1
  buf2 : IsBuf wr n0 b2 v2 s2 q2
  fr : Fr (fun j => n0 ≤ j) w wr
  own1 : ∀ j, v1.ownBlock = some j → n0 ≤ j
  own2 : ∀ j, v2.ownBlock = some j → n0 ≤ j
  apart : ∀ j, v1.ownBlock = some j → v2.ownBlock ≠ some j
  ne_ : b1 ≠ b2

/-- One buffer turns: the other stays, and they stay apart. -/
theorem other_stays {w w2 : World} {n0 b1 b2 : Nat} {v1 v2 v1' : Value} {s1 s2 : St} {q1 q2 : Array Item} (h1 : IsBuf w n0 b1 v1 s1 q1) (h2 : IsBuf w n0 b2 v2 s2 q2) (hf : Fr (fun j => j = b1 ∨ v1.ownBlock = some j) w w2) (hne : b1 ≠ b2)
    (hap : ∀ j, v1.ownBlock = some j → v2.ownBlock ≠ some j) (ho : v1'.ownBlock = v1.ownBlock ∨ ∃ g, v1'.ownBlock = some g ∧ w.heap.size ≤ g) :
    IsBuf w2 n0 b2 v2 s2 q2 ∧ ∀ j, v1'.ownBlock = some j → v2.ownBlock ≠ some j := by
  refine ⟨h2.fr hf ?_ ?_, ?_⟩
  · rintro (e | e)
    · exact hne e.symm
    · exact own_blk_ne h1.pq.row h2.pq.blk (by decide) e
  · rintro j hj (e | e)
    · exact own_blk_ne h2.pq.row h1.pq.blk (by decide) (by rw [hj, e])
    · exact hap j e hj
  · intro j hj hj2
    rcases ho with ho | ⟨g, hg, hge⟩
    · exact hap j (by rw [← ho]; exact hj) hj2
    · rw [hg] at hj
      injection hj with e
      have := (World.ownsRow.lt h2.pq.row j hj2).2
      omega

theorem OW.step {n0 b1 b2 : Nat} {f g : Nat → Item} {w wr w2 w3 : World} {k : Nat} {s1 s2 : St} {q1 q2 q1' q2' : Array Item} {v1 v2 v1' v2' : Value} (h : OW n0 b1 b2 f g w wr k s1 q1 v1 s2 q2 v2) (hk : k ≤ 100) (hn : n0 ≤ wr.heap.size) {t1 t2 k1 k2 : Int}
    (h10 : 0 ≤ t1) (h11 : t1 ≤ 255) (h20 : 0 ≤ t2) (h21 : t2 ≤ 255) (hf : f k = ⟨t1, k, k1, 0, 0⟩) (hg : g k = ⟨t2, k, k2, 0, 0⟩)
    (hp1 : Pushed wr w2 n0 b1 v1 s1 q1 t1 k1 0 0 v1' q1') (hp2 : Pushed w2 w3 n0 b2 v2 s2 q2 t2 k2 0 0 v2' q2') :
    OW n0 b1 b2 f g w w3 (k + 1) (pushSt s1 q1.size t1) q1' v1' (pushSt s2 q2.size t2) q2' v2' := by
  have F1 := hp1.frame (n := n0) h.buf1.pq.le h.own1 hn
  have A := other_stays h.buf1 h.buf2 hp1.fr h.ne_ h.apart hp1.own
  have F2 := hp2.frame (n := n0) h.buf2.pq.le h.own2 (Nat.le_trans hn hp1.fr.size)
  have B := other_stays (v1' := v2') A.1 hp1.buf hp2.fr h.ne_.symm (fun j hj hj2 => A.2 j hj2 hj) hp2.own
  have w1 := hp1.wait
  rw [if_pos (h.l1.code hk h10 h11)] at w1
  have w2 := hp2.wait
  rw [if_pos (h.l2.code hk h20 h21)] at w2
  exact ⟨h.l1.push hk h10 h11 hf w1, h.l2.push hk h20 h21 hg w2, B.1, hp2.buf, (h.fr.trans' F1.1).trans' F2.1, F1.2, F2.2, fun j hj hj2 => B.2 j hj2 hj, h.ne_⟩

theorem cnt_stored {w4 wr : World} {B cg k : Nat} {xs : List Value} (hci : wr.ownsRow B 3 1 (.slice (some ⟨cg, 0, none⟩) k k) k xs) (hfi : Fr (fun j => j = cg) w4 wr) (j m : Nat) (a b : Value) (p q : Nat) :
    ((((wr.drewN p).setCell ⟨cg, j, none⟩ a).setCell ⟨cg, m, none⟩ b).drewN q).ownsRow B 3 1 (.slice (some ⟨cg, 0, none⟩) k k) k ((xs.set j a).set m b) ∧
    Fr (fun j => j = cg) w4 ((((wr.drewN p).setCell ⟨cg, j, none⟩ a).setCell ⟨cg, m, none⟩ b).drewN q) := by
  have st1 := World.ownsRow.stored (w := wr.drewN p) hci j a
  have st2 := st1.1.stored m b
  exact ⟨st2.1, (((hfi.drewN p).trans (Fr.of_grown st1.2) (fun i _ e => by injection e with e; exact e.symm)).trans (Fr.of_grown st2.2) (fun i _ e => by injection e with e; exact e.symm)).drewN _⟩

set_option maxRecDepth 100000 in
set_option maxHeartbeats 8000000 in
theorem orders_walk (a1 : Option Addr) (len1 cap1 : Nat) (z1 : List Int) (a0 : Int) (w : World) (w1 : IsRow .u8 w a1 len1 cap1 z1) (w0 : (Lit.int .u8 a0).wf = true) :
    Calls Try.prog 4 #[.slice a1 len1 cap1, .int .u8 a0] w fun e w' => e = .returned (.bool true) ∧ Below w.heap.size w w' := by
  by_cases hl : 100 < len1 ∨ len1 = 0
  · exact orders_short a1 len1 cap1 a0 w hl
  have hl1 : len1 ≤ 100 := by omega
  have hl2 : 1 ≤ len1 := by omega
  have ha : 0 ≤ a0 ∧ a0 ≤ 255 := bounds_u8 w0
  obtain ⟨ha0, ha1⟩ := ha
  obtain ⟨tr, rfl⟩ := Int.eq_ofNat_of_zero_le ha0
  have hl1' : (len1 : Int) ≤ 100 := by omega
  have hl2' : (1 : Int) ≤ (len1 : Int) := by omega
  have hl3 : ((len1 : Int) == 0) = false := beq_eq_false_iff_ne.2 (by omega)
  obtain ⟨i3, hi3, hz30, hz31, hz32⟩ := info_parts info_int
  clear hl w0
  go_enter Try.func4, Try.ntmps4
  go_wp2_with fail
  refine (awake_any w).mono ?_
  rintro e wa ⟨rfl, hfa⟩
  go_wp2_with fail
  refine (new_ok 1000 1000 wa (by omega) (by omega) (by omega) (by omega)).mono ?_
  rintro e wb ⟨rfl, rfl⟩
  go_wp2_with fail
  refine (new_ok 1000 1000 _ (by omega) (by omega) (by omega) (by omega)).mono ?_
  rintro e wc ⟨rfl, rfl⟩
  have hb1' := newBuf wa w.heap.size hfa.size 1000 1000
  have hb2 := newBuf (wa.alloc (.cells (bufCells (.slice none 0 0) (newSt 1000 1000)) 65)) w.heap.size (by have := hfa.size; simp; omega) 1000 1000
  have hb1 := hb1'.frF ((Fr.refl (fun _ => False) _).alloc (.cells (bufCells (.slice none 0 0) (newSt 1000 1000)) 65))
  have hfb : Fr (fun k => w.heap.size ≤ k) w ((wa.alloc (.cells (bufCells (.slice none 0 0) (newSt 1000 1000)) 65)).alloc (.cells (bufCells (.slice none 0 0) (newSt 1000 1000)) 65)) := ((hfa.mono fun _ _ h => h.elim).alloc _).alloc _
  have hne : wa.heap.size ≠ wa.heap.size + 1 := by omega
  have e9 : (wa.alloc (.cells (bufCells (.slice none 0 0) (newSt 1000 1000)) 65)).heap.size = wa.heap.size + 1 := by simp
  rw [e9] at hb2 ⊢
  have hbn := hfa.size
  generalize ((wa.alloc (.cells (bufCells (.slice none 0 0) (newSt 1000 1000)) 65)).alloc (.cells (bufCells (.slice none 0 0) (newSt 1000 1000)) 65)) = wb at *
  obtain ⟨b1, hb1e⟩ : ∃ b1, b1 = wa.heap.size := ⟨_, rfl⟩
  obtain ⟨b2, hb2e⟩ : ∃ b2, b2 = wa.heap.size + 1 := ⟨_, rfl⟩
  rw [← hb2e] at hb2 hne ⊢
  rw [← hb1e] at hb1 hne hbn ⊢
  clear hfa hb1' e9 hb1e hb2e
  go_wp2_with fail
  go_loopw [45] (fun iv wr => ∃ (k : Nat) (s1 : St) (q1 : Array Item) (v1 : Value) (s2 : St) (q2 : Array Item) (v2 : Value), iv = .int .i64 (k : Int) ∧ k ≤ len1 ∧
      OW w.heap.size b1 b2 (f1 z1) (f2 z1 tr len1) w wr k s1 q1 v1 s2 q2 v2) (fun iv _ => len1 - (intOf iv).toNat)
  case atStart => exact ⟨0, newSt 1000 1000, #[], .slice none 0 0, newSt 1000 1000, #[], .slice none 0 0, rfl, Nat.zero_le _, ⟨Fill.start _, Fill.start _, hb1, hb2, hfb, by simp [Value.ownBlock], by simp [Value.ownBlock], by simp [Value.ownBlock], hne⟩⟩
  case round =>
    obtain ⟨k, s1, q1, v1, s2, q2, v2, rfl, hk, hw⟩ := hrel
    have hsz := hw.fr.size
    clear hb1 hb2 hfb
    by_cases hlt : k < len1
    · obtain ⟨xb, xo, rfl, hle, hxb, hc, hwf⟩ := w1.at_ hlt
      obtain ⟨m, hm⟩ : ∃ m, m = (k + tr) % len1 := ⟨_, rfl⟩
      have hml : m < len1 := by rw [hm]; exact Nat.mod_lt _ (by omega)
      obtain ⟨xb', xo', hxe, _, _, hcm, hwfm⟩ := w1.at_ hml
      injection hxe with hxe
      injection hxe with hxe1 hxe2
      subst hxe1 hxe2
      have hf1 : f1 z1 k = ⟨z1.getD k 0, k, k, 0, 0⟩ := rfl
      have hf2 : f2 z1 tr len1 k = ⟨z1.getD m 0, k, (m : Int), 0, 0⟩ := by rw [hm]; rfl
      have em : ((k : Int) + (tr : Int)) % (len1 : Int) = (m : Int) := by rw [hm]; simp
      have ht1 := bounds_u8 hwf
      have ht2 := bounds_u8 hwfm
      have hc1 : wr.cell? ⟨xb, xo + k, none⟩ = some (.int .u8 (z1.getD k 0)) := (hw.fr.old (by exact hxb) (Nat.le_refl _)).trans hc
      have hc2 : ∀ w2, Fr (fun j => w.heap.size ≤ j) wr w2 → w2.cell? ⟨xb, xo + m, none⟩ = some (.int .u8 (z1.getD m 0)) := fun w2 hf => ((hw.fr.trans' hf).old (by exact hxb) (Nat.le_refl _)).trans hcm
      generalize z1.getD k 0 = t1 at *
      generalize z1.getD m 0 = t2 at *
      have HF1 := Lib.hid hf1
      have HF2 := Lib.hid hf2
      have HC2 := Lib.hid hc2
      have HW := Lib.hid hw
      have hk100 : k ≤ 100 := by omega
      have hlt' : (k : Int) < (len1 : Int) := by omega
      have hml' : (m : Int) < (len1 : Int) := by omega
      obtain ⟨ht10, ht11⟩ := ht1
      obtain ⟨ht20, ht21⟩ := ht2
      have hp1 := pushB w.heap.size b1 v1 s1 q1 t1 k 0 0 wr hw.buf1 (hw.l1.fit (by omega))
      rw [hw.l1.code hk100 ht10 ht11] at hp1
      have HP1 := Lib.hid hp1
      have HC := Lib.hid (hw.l2.code hk100 ht20 ht21)
      have HFIT := Lib.hid (hw.l2.fit (by omega))
      clear hw hc hcm hwf hwfm w1 hm hf1 hf2 hc2 hp1
      go_wp2_with fail
      refine HP1.out.mono ?_
      rintro e w2 ⟨v1', q1', rfl, hpa⟩
      have F1 := hpa.frame (n := w.heap.size) HW.out.buf1.pq.le HW.out.own1 hsz
      have hc2 := HC2.out w2 F1.1
      have A := other_stays HW.out.buf1 HW.out.buf2 hpa.fr HW.out.ne_ HW.out.apart hpa.own
      have hpb := pushB w.heap.size b2 v2 s2 q2 t2 m 0 0 w2 A.1 HFIT.out
      rw [HC.out] at hpb
      have HP2 := Lib.hid hpb
      clear hpb
      go_wp2_with fail
      refine HP2.out.mono ?_
      rintro e w3 ⟨v2', q2', rfl, hpb⟩
      have T := HW.out.step hk100 hsz ht10 ht11 ht20 ht21 HF1.out HF2.out hpa hpb
      clear hc2 hc1
      go_wp2_with fail
      go_roundw
      case rel => exact ⟨k + 1, _, q1', v1', _, q2', v2', by go_num, by omega, T⟩
      case measure => simp [intOf]; omega
    · have hge : (len1 : Int) ≤ (k : Int) := by omega
      have hkl : k = len1 := by omega
      subst hkl
      have HW := Lib.hid hw
      have hbuf1 := hw.buf1
      clear hw hlt hge
      have hge : (k : Int) ≤ (k : Int) := Int.le_refl _
      go_wp2_with fail
      refine (flush_any w.heap.size b1 v1 s1 q1 wr hbuf1).mono ?_
      rintro e w2 ⟨v1', o1, X, r1, rfl, ho1, hbx, htx, hrx, hfx, hvx⟩
      have A := other_stays HW.out.buf1 HW.out.buf2 hfx HW.out.ne_ HW.out.apart (.inl hvx)
      have hf2 : Fr (fun j => w.heap.size ≤ j) w w2 := HW.out.fr.trans hfx (fun i _ e => by
        rcases e with e | e
        · have := HW.out.buf1.pq.le; omega
        · exact HW.out.own1 _ e)
      have hsz2 := hfx.size
      go_wp2_with fail
      refine (flush_any w.heap.size b2 v2 s2 q2 w2 A.1).mono ?_
      rintro e w3 ⟨v2', o2, Y, r2, rfl, ho2, hby, hty, hry, hfy, hvy⟩
      have hX := HW.out.l1.flush htx hrx
      have hY := HW.out.l2.flush hty hry
      have hX3 : QRow w3 wr.heap.size o1 X := ho1.fr hfy (fun j hj e => by
        have h1 := (World.ownsRow.lt ho1 j hj).1
        rcases e with e | e
        · have := HW.out.buf2.pq.blk.lt; omega
        · have := (World.ownsRow.lt HW.out.buf2.pq.row j e).2; omega)
      have hf3 : Fr (fun j => w.heap.size ≤ j) w w3 := hf2.trans hfy (fun i _ e => by
        rcases e with e | e
        · have := HW.out.buf2.pq.le; omega
        · exact HW.out.own2 _ e)
      have hY3 := ho2
      have hxs := hX.size
      have hys := hY.size
      have hsz3 := hf3.size
      obtain ⟨A1, c1, ho1e⟩ := hX3.shape
      obtain ⟨A2, c2, ho2e⟩ := hY3.shape
      rw [hxs] at ho1e
      rw [hys] at ho2e
      subst ho1e ho2e
      clear hbuf1 hbx hby htx hty hfx hfy hrx hry hf2 A ho1 hvx hvy HW
      go_wp2_with (at_make; refine wpList_make_full _ rfl _ _ 39 rfl w.heap.size 3 i3 (.int .i64 0) 1 Try.underlying39 hi3 hz30 hz31 _ _ _ _ k (by rfl) (by rfl) rfl rfl (by rw [hz32]; omega) (by unfold maxLen; omega) (by omega) ?_; intro w4 hcnt hgr4)
      have hf34 := Fr.of_grown hgr4
      have hX4 := hX3.fr hf34 (fun j hj e => by cases e)
      have hY4 := hY3.fr hf34 (fun j hj e => by cases e)
      have hf4 : Fr (fun j => w.heap.size ≤ j) w w4 := hf3.trans hf34 (fun j _ e => by cases e)
      have hse : (madeCells (Value.int .i64 0).cells (k * 1)).toList = (cntL X Y 0 k).map (Value.int .i64) := by
        rw [show (Value.int .i64 0).cells = #[Value.int .i64 0] from rfl, toList_madeCells_one, cntL_zero, Nat.mul_one, List.map_replicate]
      rw [hse] at hcnt
      have hcg := World.ownsRow.lt hcnt w3.heap.size rfl
      generalize w3.heap.size = cg at *
      clear hX3 hY3 hf3 hgr4 hf34 hse
      have hkeyX : Keys k X := hX.keys (r := fun i => i) (by simp) (fun i => rfl)
      have hkeyY : Keys k Y := hY.keys (r := fun i => (i + tr) % k) (rot_perm k tr (by omega)) (fun i => rfl)
      have htXY : ∀ i, i < k → X[i]!.t = Y[i]!.t := fun i hi => times_eq hX hY (by
        show ((List.range k).map fun i => z1.getD i 0).Perm ((List.range k).map fun i => z1.getD ((i + tr) % k) 0)
        have h1 := (rot_perm k tr (by omega)).map (fun i => z1.getD i 0)
        rw [List.map_map] at h1
        exact h1.symm) hi
      have hne1 : ∀ g, A1 = some ⟨g, 0, none⟩ → g ≠ cg := fun g hg e => own_own_ne hX4 hcnt (by decide) g (by rw [hg]; rfl) (by rw [← e]; rfl)
      have hne2 : ∀ g, A2 = some ⟨g, 0, none⟩ → g ≠ cg := fun g hg e => own_own_ne hY4 hcnt (by decide) g (by rw [hg]; rfl) (by rw [← e]; rfl)
      go_wp2_with fail
      go_loopw [95] (fun jv wi => ∃ (i : Nat), jv = .int .i64 (i : Int) ∧ i ≤ k ∧ wi.ownsRow w.heap.size 3 1 (.slice (some ⟨cg, 0, none⟩) k k) k ((cntL X Y i k).map (Value.int .i64)) ∧ Fr (fun j => j = cg) w4 wi) (fun jv _ => k - (intOf jv).toNat)
      case atStart => exact ⟨0, rfl, by omega, hcnt, Fr.refl _ _⟩
      case round =>
        obtain ⟨i, rfl, hi, hci, hfi⟩ := hrel
        by_cases hil : i < k
        · have hiX : i < X.size := by omega
          have hiY : i < Y.size := by omega
          obtain ⟨j, hj, hXi⟩ := hX.at_ hil
          obtain ⟨j', hj', hYi⟩ := hY.at_ hil
          obtain ⟨m, hm⟩ : ∃ m, m = (j' + tr) % k := ⟨_, rfl⟩
          have hmk : m < k := by rw [hm]; exact Nat.mod_lt _ (by omega)
          have hXk : X[i]!.k0 = (j : Int) := by rw [hXi]; rfl
          have hXs : X[i]!.s = (j : Int) := by rw [hXi]; rfl
          have hXt : z1.getD j 0 = X[i]!.t := by rw [hXi]; rfl
          have hYk : Y[i]!.k0 = (m : Int) := by rw [hYi, hm]; rfl
          have hYt : z1.getD m 0 = X[i]!.t := by rw [htXY i hil, hYi, hm]; rfl
          have hXY := htXY i hil
          have hsgen : ∀ ip, i = ip + 1 → le X[ip]! X[i]! ∧ X[ip]!.s ≠ X[i]!.s := fun ip e => by
            subst e
            exact ⟨hX.rises hil, hX.seq_ne (fun _ => rfl) hil⟩
          obtain ⟨gX, hgX, -, hgXl, hgXc⟩ := row_form (n := k) (by have h := hX4; unfold QRow at h; rw [hxs] at h; exact h) (by omega)
          obtain ⟨gY, hgY, -, hgYl, hgYc⟩ := row_form (n := k) (by have h := hY4; unfold QRow at h; rw [hys] at h; exact h) (by omega)
          have hnX : ¬ gX = cg := hne1 gX hgX
          have hnY : ¬ gY = cg := hne2 gY hgY
          subst hgX hgY
          have hXq : QRow wr _ (.slice (some ⟨gX, 0, none⟩) k c1) X := hX4.fr hfi (fun q hq e => hnX (by injection hq with hq; exact hq.trans e))
          have hYq : QRow wr _ (.slice (some ⟨gY, 0, none⟩) k c2) Y := hY4.fr hfi (fun q hq e => hnY (by injection hq with hq; exact hq.trans e))
          obtain ⟨d0, d1, d2, -, -⟩ := hXq.cells hiX
          obtain ⟨q0, -, q2, -, -⟩ := hYq.cells hiY
          rw [← hXY] at q0
          rw [hXs] at d1
          rw [hXk] at d2
          rw [hYk] at q2
          obtain ⟨xb, xo, rfl, hle, hxb, hcj, hwf⟩ := w1.at_ hj
          obtain ⟨xb', xo', hxe, _, _, hcm, _⟩ := w1.at_ hmk
          injection hxe with hxe
          injection hxe with hxe1 hxe2
          subst hxe1 hxe2
          have hfw : Fr (fun j => w.heap.size ≤ j) w wr := hf4.trans hfi (fun j _ e => by rw [e]; exact hcg.1)
          have z0 : wr.cell? ⟨xb, xo + j, none⟩ = some (.int .u8 X[i]!.t) := by rw [← hXt]; exact (hfw.old (by exact hxb) (Nat.le_refl _)).trans hcj
          have z2 : wr.cell? ⟨xb, xo + m, none⟩ = some (.int .u8 X[i]!.t) := by rw [← hYt]; exact (hfw.old (by exact hxb) (Nat.le_refl _)).trans hcm
          have htb := bounds_u8 hwf
          rw [hXt] at htb
          obtain ⟨htb0, htb1⟩ := htb
          have hxcg : ¬ xb = cg := by have := hcg.1; omega
          have hcgl : cg < wr.heap.size := by have := hfi.size; have := hcg.2; omega
          have gu1 := cntL_get X Y (i := i) hj
          have gu2 := cntL_get X Y (i := i) hmk
          have bu : ∀ c, cnt X i c + cnt Y i c ≤ 200 := fun c => by have := cnt_le X i c; have := cnt_le Y i c; omega
          have bu1 := bu j
          have bu2 := bu m
          have cj : wr.cell? ⟨cg, j, none⟩ = some (.int .i64 ((cnt X i j + cnt Y i j : Nat) : Int)) := by
            rw [World.ownsRow.cellAt hci j (by omega), List.getElem?_map, gu1]; rfl
          have cm : wr.cell? ⟨cg, m, none⟩ = some (.int .i64 ((cnt X i m + cnt Y i m : Nat) : Int)) := by
            rw [World.ownsRow.cellAt hci m (by omega), List.getElem?_map, gu2]; rfl
          have fj := World.ownsRow.frozenAt hci j
          have fm := World.ownsRow.frozenAt hci m
          have hstep : (bump (bump (cntL X Y i k) j) m).map (Value.int .i64) = (cntL X Y (i + 1) k).map (Value.int .i64) := by rw [cntL_step hiX hiY hXk hYk hj hmk]
          have hg1 : (cntL X Y i k).getD j 0 = ((cnt X i j + cnt Y i j : Nat) : Int) := by rw [List.getD_eq_getElem?_getD, gu1]; rfl
          have hg2 : (cntL X Y i k).getD m 0 = ((cnt X i m + cnt Y i m : Nat) : Int) := by rw [List.getD_eq_getElem?_getD, gu2]; rfl
          have hcl := cntL_len X Y i k
          obtain ⟨u1, hu1⟩ : ∃ u : Int, u = ((cnt X i j + cnt Y i j : Nat) : Int) := ⟨_, rfl⟩
          obtain ⟨u2, hu2⟩ : ∃ u : Int, u = ((cnt X i m + cnt Y i m : Nat) : Int) := ⟨_, rfl⟩
          have bb1 : 0 ≤ u1 ∧ u1 ≤ 200 := by omega
          have bb2 : 0 ≤ u2 ∧ u2 ≤ 200 := by omega
          obtain ⟨bb10, bb11⟩ := bb1
          obtain ⟨bb20, bb21⟩ := bb2
          rw [← hu1] at cj hg1
          rw [← hu2] at cm hg2
          have hjk' : (j : Int) < (k : Int) := by omega
          have hmk' : (m : Int) < (k : Int) := by omega
          have hik' : (i : Int) < (k : Int) := by omega
          have hj0 : decide ((j : Int) < 0) = false := decide_eq_false (by omega)
          have hm0 : decide ((m : Int) < 0) = false := decide_eq_false (by omega)
          have hjn : decide (k ≤ j) = false := decide_eq_false (by omega)
          have hmn : decide (k ≤ m) = false := decide_eq_false (by omega)
          have hjs : True := trivial
          rw [hXs] at hsgen
          have hsgen' : ∀ ip, i = ip + 1 → (X[ip]!.t < X[i]!.t ∨ (X[i]!.t = X[ip]!.t ∧ X[ip]!.s ≤ (j : Int))) ∧ X[ip]!.s ≠ (j : Int) := fun ip e => by
            obtain ⟨h1, h2⟩ := hsgen ip e
            unfold le at h1
            rw [hXs] at h1
            exact ⟨by omega, h2⟩
          clear hsgen
          have hsgen := hsgen'
          clear hsgen' hXi hYi hXk hXs hXt hYk hYt hXY hm gu1 gu2 bu bu1 bu2 hu1 hu2 hcj hcm hwf htXY hX hY hkeyX hkeyY hne1 hne2 w1 hX4 hY4
          generalize X[i]!.t = t at *
          by_cases hjm : j = m
          · subst hjm
            have hu : u1 = u2 := by rw [← hg1, ← hg2]
            subst hu
            have hs2 : (((cntL X Y i k).map (Value.int .i64)).set j (.int .i64 (u1 + 1))).set j (.int .i64 (u1 + 1 + 1)) = (bump (bump (cntL X Y i k) j) j).map (Value.int .i64) := by
              unfold bump
              rw [List.map_set, List.map_set, hg1]
              congr 2
              simp [List.getD_eq_getElem?_getD, hcl, hj]
            rw [hstep] at hs2
            have HSTEP := Lib.hid hs2
            clear hs2 hstep hg1 hg2 hcl
            by_cases hi0 : i = 0
            · subst hi0
              clear hjs hsgen
              go_wp2_with fail
              go_big_quiet (fail)
              go_wp2_with fail
              go_big_quiet (fail)
              go_wp2_with fail
              go_big_quiet (fail)
              go_wp2_with fail
              go_roundw
              case rel =>
                have T := cnt_stored hci hfi j j (.int .i64 (u1 + 1)) (.int .i64 ((u1 + 1) + 1))
                refine ⟨0 + 1, by go_num, by omega, ?_, ?_⟩
                · rw [← HSTEP.out]
                  exact (T _ _).1
                · exact (T _ _).2
              case measure => simp [intOf]; omega
            · obtain ⟨ip, rfl⟩ : ∃ ip, i = ip + 1 := ⟨i - 1, by omega⟩
              obtain ⟨p0, p1, -, -, -⟩ := hXq.cells (i := ip) (by omega)
              have hle2 := hsgen ip rfl
              obtain ⟨hle2, hsne⟩ := hle2
              generalize X[ip]!.t = tp at *
              generalize X[ip]!.s = sp at *
              have n0 : (0 : Int) < (ip : Int) + 1 := by omega
              have n1 : (ip : Int) < (k : Int) := by omega
              clear hjs hsgen hi0
              rcases hle2 with hlt2 | ⟨heq2, hsle⟩
              · have hne2 : (t == tp) = false := beq_eq_false_iff_ne.2 (by omega)
                clear hsne
                go_wp2_with fail
                go_big_quiet (fail)
                go_wp2_with fail
                go_big_quiet (fail)
                go_wp2_with fail
                go_big_quiet (fail)
                go_wp2_with fail
                go_roundw
                case rel =>
                  have T := cnt_stored hci hfi j j (.int .i64 (u1 + 1)) (.int .i64 ((u1 + 1) + 1))
                  refine ⟨(ip + 1) + 1, by go_num, by omega, ?_, ?_⟩
                  · rw [← HSTEP.out]
                    exact (T _ _).1
                  · exact (T _ _).2
                case measure => simp [intOf]; omega
              · subst heq2
                have hsg2 : decide ((j : Int) ≤ sp) = false := decide_eq_false (by omega)
                clear hsne hsle
                go_wp2_with fail
                go_big_quiet (fail)
                go_wp2_with fail
                go_big_quiet (fail)
                go_wp2_with fail
                go_big_quiet (fail)
                go_wp2_with fail
                go_roundw
                case rel =>
                  have T := cnt_stored hci hfi j j (.int .i64 (u1 + 1)) (.int .i64 ((u1 + 1) + 1))
                  refine ⟨(ip + 1) + 1, by go_num, by omega, ?_, ?_⟩
                  · rw [← HSTEP.out]
                    exact (T _ _).1
                  · exact (T _ _).2
                case measure => simp [intOf]; omega
          · have hs2 : (((cntL X Y i k).map (Value.int .i64)).set j (.int .i64 (u1 + 1))).set m (.int .i64 (u2 + 1)) = (bump (bump (cntL X Y i k) j) m).map (Value.int .i64) := by
              unfold bump
              rw [List.map_set, List.map_set, hg1]
              congr 2
              rw [List.getD_eq_getElem?_getD, List.getElem?_set_ne hjm, ← List.getD_eq_getElem?_getD, hg2]
            rw [hstep] at hs2
            have HSTEP := Lib.hid hs2
            have hmj : ¬ m = j := fun e => hjm e.symm
            clear hs2 hstep hg1 hg2 hcl
            by_cases hi0 : i = 0
            · subst hi0
              clear hjs hsgen
              go_wp2_with fail
              go_big_quiet (fail)
              go_wp2_with fail
              go_big_quiet (fail)
              go_wp2_with fail
              go_big_quiet (fail)
              go_wp2_with fail
              go_roundw
              case rel =>
                have T := cnt_stored hci hfi j m (.int .i64 (u1 + 1)) (.int .i64 (u2 + 1))
                refine ⟨0 + 1, by go_num, by omega, ?_, ?_⟩
                · rw [← HSTEP.out]
                  exact (T _ _).1
                · exact (T _ _).2
              case measure => simp [intOf]; omega
            · obtain ⟨ip, rfl⟩ : ∃ ip, i = ip + 1 := ⟨i - 1, by omega⟩
              obtain ⟨p0, p1, -, -, -⟩ := hXq.cells (i := ip) (by omega)
              have hle2 := hsgen ip rfl
              obtain ⟨hle2, hsne⟩ := hle2
              generalize X[ip]!.t = tp at *
              generalize X[ip]!.s = sp at *
              have n0 : (0 : Int) < (ip : Int) + 1 := by omega
              have n1 : (ip : Int) < (k : Int) := by omega
              clear hjs hsgen hi0
              rcases hle2 with hlt2 | ⟨heq2, hsle⟩
              · have hne2 : (t == tp) = false := beq_eq_false_iff_ne.2 (by omega)
                clear hsne
                go_wp2_with fail
                go_big_quiet (fail)
                go_wp2_with fail
                go_big_quiet (fail)
                go_wp2_with fail
                go_big_quiet (fail)
                go_wp2_with fail
                go_roundw
                case rel =>
                  have T := cnt_stored hci hfi j m (.int .i64 (u1 + 1)) (.int .i64 (u2 + 1))
                  refine ⟨(ip + 1) + 1, by go_num, by omega, ?_, ?_⟩
                  · rw [← HSTEP.out]
                    exact (T _ _).1
                  · exact (T _ _).2
                case measure => simp [intOf]; omega
              · subst heq2
                have hsg2 : decide ((j : Int) ≤ sp) = false := decide_eq_false (by omega)
                clear hsne hsle
                go_wp2_with fail
                go_big_quiet (fail)
                go_wp2_with fail
                go_big_quiet (fail)
                go_wp2_with fail
                go_big_quiet (fail)
                go_wp2_with fail
                go_roundw
                case rel =>
                  have T := cnt_stored hci hfi j m (.int .i64 (u1 + 1)) (.int .i64 (u2 + 1))
                  refine ⟨(ip + 1) + 1, by go_num, by omega, ?_, ?_⟩
                  · rw [← HSTEP.out]
                    exact (T _ _).1
                  · exact (T _ _).2
                case measure => simp [intOf]; omega
        · have hik : i = k := by omega
          subst hik
          have hge2 : (i : Int) ≤ (i : Int) := Int.le_refl _
          have hall := cntL_all hkeyX hkeyY hxs hys
          rw [hall] at hci
          have HFI := Lib.hid hfi
          clear hall hkeyX hkeyY htXY hX hY hne1 hne2 w1 hX4 hY4 hil hcnt
          have hwf : Fr (fun j => w.heap.size ≤ j) w wr := hf4.trans hfi (fun j _ e => by rw [e]; exact hcg.1)
          clear hfi hf4
          go_wp2_with fail
          go_loopw [210] (fun jv wi => ∃ (r : Nat), jv = .int .i64 (r : Int) ∧ r ≤ i ∧ wi.ownsRow w.heap.size 3 1 (.slice (some ⟨cg, 0, none⟩) i i) i ((List.replicate i (2 : Int)).map (Value.int .i64)) ∧ Fr (fun j => w.heap.size ≤ j) w wi) (fun jv _ => i - (intOf jv).toNat)
          case atStart => exact ⟨0, rfl, by omega, hci, hwf⟩
          case round =>
            obtain ⟨r, rfl, hr, hcr, hfr⟩ := hrel
            by_cases hri : r < i
            · have c2 : wr.cell? ⟨cg, r, none⟩ = some (.int .i64 2) := by
                rw [World.ownsRow.cellAt hcr r (by omega), List.getElem?_map, List.getElem?_replicate_of_lt hri]; rfl
              have hri' : (r : Int) < (i : Int) := by omega
              go_wp2_with fail
              go_roundw
              case rel => exact ⟨r + 1, by go_num, by omega, hcr, hfr⟩
              case measure => simp [intOf]; omega
            · have hri2 : r = i := by omega
              subst hri2
              have hge3 : (r : Int) ≤ (r : Int) := Int.le_refl _
              go_wp2_with fail
              go_ret
              exact ⟨rfl, hfr.below (Nat.le_refl _) fun _ h => h⟩

end Go.Proofs.Ytgcmdoinihehcaa
