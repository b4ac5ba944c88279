/- A part of the proofs over a buffer of what comes late: contracts of the functions, each by a walk. -/
import Derived.Test.YtgcmdoinihehcaaWk
import Derived.Test.YtgcmdoinihehcaaAc
import Derived.Test.YtgcmdoinihehcaaRq
import Derived.WalkKit
import Derived.WalkLawsBesides
import Derived.WalkSpells
import Derived.Deep.QuietTactic
import Derived.BigRegion
import Derived.BigQuiet
import Derived.Lib.Hide
import Derived.Outline
import Derived.Deep.AppendLies
import Derived.Deep.RegionLaw
import Derived.Deep.RegionWith
import Derived.Deep.RegionHeld3
import Derived.Deep.LoopGhost
import Derived.Deep.DeepFit
import Derived.Laws.ResultCell
import Derived.Deep.MidRow
import Derived.StillTailTactics
import Derived.OpenShut
namespace Go.Proofs.Ytgcmdoinihehcaa
set_option linter.unusedVariables false
open Go.RowKit Go

theorem info3 : (Try.prog.info? 3).map (fun i => (i.zero, i.size, i.bytes)) = some (some (.int .i64 0), 1, 8) := by kernel_rfl

set_option maxRecDepth 100000 in
theorem rises_long (a0 : Int) (a1 : Option Addr) (len1 cap1 : Nat) (w : World) (hl : 100 < len1) :
    Calls Try.prog 5 #[.int .u8 a0, .slice a1 len1 cap1] w fun e w' => e = .returned (.bool true) ∧ Below w.heap.size w w' := by
  go_enter Try.func5, Try.ntmps5
  go_wp2_with fail
  refine (awake_any w).mono ?_
  rintro e w1 ⟨rfl, hf⟩
  go_wp2_with fail
  refine (awake_any w1).mono ?_
  rintro e w2 ⟨rfl, hf2⟩
  go_wp2_with fail
  go_ret
  exact ⟨rfl, (hf.trans' hf2).below (Nat.le_refl _) fun _ h => h.elim⟩

theorem info4 : (Try.prog.info? 4).map (fun i => (i.zero, i.size, i.bytes)) = some (some (.bool false), 1, 1) := by kernel_rfl

theorem own_shape {w : World} {B : Nat} {e : TypeId} {size n : Nat} {v : Value} {xs : List Value} (h : w.ownsRow B e size v n xs) : ∃ A c, v = .slice A n c := by
  rcases h.2 with ⟨h1, h2⟩ | ⟨g, cap, cur, h1, _⟩
  · exact ⟨none, 0, by rw [h1, h2]⟩
  · exact ⟨_, _, h1⟩

theorem seenL_zero (F : Array Item) (n : Nat) : (seenL F 0 n).map Value.bool = List.replicate n (Value.bool false) := by
  unfold seenL
  rw [List.map_map]
  apply List.ext_getElem
  · simp
  · intro i h1 h2
    simp

theorem own_le {w : World} {B : Nat} {e : TypeId} {size n c : Nat} {A : Option Addr} {xs : List Value} (h : w.ownsRow B e size (.slice A n c) n xs) : n ≤ c := by
  rcases h.2 with ⟨h1, h2⟩ | ⟨g, cap, cur, h1, _, _, h2, _⟩
  · omega
  · injection h1 with _ _ h3
    omega

theorem qCells_one (q : Array Item) : ∀ u ∈ qCells q, u.oneCell' = true := by
  intro u hu
  unfold qCells at hu
  obtain ⟨x, _, hx⟩ := List.mem_flatMap.1 hu
  exact itemCells_one x u hx

set_option maxRecDepth 100000 in
set_option maxHeartbeats 8000000 in
theorem rises_walk (a0 : Int) (a1 : Option Addr) (len1 cap1 : Nat) (z1 : List Act) (w : World) (w0 : (Lit.int .u8 a0).wf = true) (w1 : IsActs w a1 len1 cap1 z1) :
    Calls Try.prog 5 #[.int .u8 a0, .slice a1 len1 cap1] w fun e w' => e = .returned (.bool true) ∧ Below w.heap.size w w' := by
  by_cases hl : 100 < len1
  · exact rises_long a0 a1 len1 cap1 w hl
  have hl' : len1 ≤ 100 := by omega
  have ha : 0 ≤ a0 ∧ a0 ≤ 255 := bounds_u8 w0
  obtain ⟨ha0, ha1⟩ := ha
  obtain ⟨i0, hi, hz0, hz1, hz2⟩ := info_parts info41
  obtain ⟨i3, hi3, hz30, hz31, hz32⟩ := info_parts info3
  obtain ⟨i4, hi4, hz40, hz41, hz42⟩ := info_parts info4
  clear hl w0
  go_enter Try.func5, Try.ntmps5
  go_wp2_with fail
  refine (awake_any w).mono ?_
  rintro e wa ⟨rfl, hfa⟩
  go_wp2_with fail
  refine (new_ok a0 1000 wa ha0 (by omega) (by omega) (by omega)).mono ?_
  rintro e wb ⟨rfl, rfl⟩
  have hb0 := newBuf wa w.heap.size hfa.size a0 1000
  have hfb : Fr (fun k => w.heap.size ≤ k) w (wa.alloc (.cells (bufCells (.slice none 0 0) (newSt a0 1000)) 65)) := ((hfa.mono fun _ _ h => h.elim).alloc _)
  have hbn := hfa.size
  generalize (wa.alloc (.cells (bufCells (.slice none 0 0) (newSt a0 1000)) 65)) = wb at *
  generalize wa.heap.size = b at *
  clear hfa
  go_wp2_with fail
  go_loopw [7, 8, 31] (fun ov cv iv wr => ∃ (k : Nat) (s : St) (q : Array Item) (v : Value) (came : List Int) (out : Array Item), iv = .int .i64 (k : Int) ∧ k ≤ len1 ∧
      RW w.heap.size b a0 w wr k s q v came out ov cv) (fun _ _ iv _ => len1 - (intOf iv).toNat)
  case atStart => exact ⟨0, newSt a0 1000, #[], .slice none 0 0, [], #[], rfl, Nat.zero_le _, ⟨BI.start ha0, RI.start _ _, hb0, hfb, by simp [Value.ownBlock], World.ownsRow_nil _ _ _ _, World.ownsRow_nil _ _ _ _, by simp [Value.ownBlock], Nat.le_refl _⟩⟩
  case round =>
    obtain ⟨k, s, q, v, came, out, rfl, hk, hw⟩ := hrel
    have hfit := hw.bi.fit ha0 (by omega) (by omega) (by omega)
    have hsz := hw.fr.size
    have hcl := hw.cl
    have hosz := hw.sz
    clear hb0 hfb
    by_cases hlt : k < len1
    · obtain ⟨xb, xo, rfl, hle, hxb, hc⟩ := w1.at_ hlt
      have hc' := hc.keep (hw.fr.block xb hxb (by omega))
      clear hc w1
      generalize z1.getD k default = x at *
      obtain ⟨c0, c1, c2, c3, c4, wk, wt⟩ := hc'
      have hlt' : (k : Int) < (len1 : Int) := by omega
      obtain ⟨wk0, wk1⟩ := wk
      have hwO : ∀ O, RW w.heap.size b a0 w (wr.alloc O) k s q v came out u7 u8 := fun O => hw.frF ((Fr.refl _ _).alloc O)
      have HW := Lib.hid hwO
      clear hwO
      by_cases hk5 : 5 ≤ x.kind % 8
      · go_wp2_with fail
        refine (take_any w.heap.size b v s q _ (HW.out _).buf).mono ?_
        rintro e w2 ⟨v2, o, t, r, rfl, ho, hb2, ht, htm, hrm, hf4, hv4⟩
        have R := (HW.out (.cells #[.int .u8 x.kind, .int .i64 x.time, .int .i64 x.k0, .int .i64 x.k1, .int .i64 x.k2] 45)).rows hf4
        have hts := ht.size
        have hs2 : w.heap.size ≤ w2.heap.size := by have := hf4.size; simp at this; omega
        have HRI := Lib.hid (fun H => hw.ri.take ht H)
        have hmk : ∀ y ∈ t.toList, s.marked = true ∧ y.t < s.mark := fun y hy => by
          refine ⟨?_, htm y hy⟩
          cases hmm : s.marked with
          | true => rfl
          | false =>
            have h0 := (hw.bi.empty hmm).1
            have : t.toList = [] := List.eq_nil_of_length_eq_zero (by rw [Array.length_toList]; omega)
            rw [this] at hy
            cases hy
        have HM := Lib.hid hmk
        have HBI := Lib.hid (hw.bi.take ht).more
        clear hw htm hrm hmk hfit
        go_wp2_with (at_builtin; refine wpList_append_rows rfl _ _ 37 rfl w.heap.size 41 i0 _ 5 40 Try.underlying37 hi hz0 hz1 hz2 rfl (by decide) u7 out.size (qCells out) (by rfl) R.1 _ o t.size (qCells t) (by rfl) ho (qCells_one t) (by unfold maxLen; omega) (by omega) hs2 ?_; intro ov' w3 hown hgrow hor)
        have T := (HW.out _).taken HBI.out (HRI.out HM.out) hb2 hf4 hv4 hown hgrow hor
        go_roundw
        case rel => exact ⟨k + 1, s, r, v2, came, _, by go_num, by omega, T⟩
        case measure => simp [intOf]; omega
      · have hk5' : x.kind % 8 < 5 := by omega
        clear hk5
        by_cases hk4 : x.kind % 8 = 4
        · have hb4 : (x.kind % 8 == 4) = true := by simp [hk4]
          clear hk4
          go_wp2_with fail
          refine (tick_any w.heap.size b v s q x.time _ (HW.out _).buf hfit).mono ?_
          rintro e w2 ⟨rfl, hb2, hf2⟩
          have T := (HW.out _).tick ha0 hb2 hf2
          clear hw
          go_wp2_with fail
          go_roundw
          case rel => exact ⟨k + 1, _, q, v, came, out, by go_num, by omega, T⟩
          case measure => simp [intOf]; omega
        · have hb4 : (x.kind % 8 == 4) = false := by simp [hk4]
          clear hk4
          obtain ⟨A, c, hcv⟩ : ∃ A c, u8 = .slice A came.length c := by
            rcases hw.crow.2 with ⟨h1, h2⟩ | ⟨g, cap, cur, h1, _⟩
            · exact ⟨none, 0, by rw [h1, h2]⟩
            · exact ⟨_, _, h1⟩
          have HCV := Lib.hid hcv
          rw [hcv]
          have hbp := fun O => pushB w.heap.size b v s q x.time came.length 0 0 (wr.alloc O) (HW.out O).buf hfit
          have HBP := Lib.hid hbp
          have hbk : ∀ w2, Fr (fun j => j = b ∨ v.ownBlock = some j) (wr.alloc (.cells #[.int .u8 x.kind, .int .i64 x.time, .int .i64 x.k0, .int .i64 x.k1, .int .i64 x.k2] 45)) w2 → Blk w2 wr.heap.size 45 #[.int .u8 x.kind, .int .i64 x.time, .int .i64 x.k0, .int .i64 x.k1, .int .i64 x.k2] := fun w2 hf => by
            refine (Blk.new wr 45 _).fr hf ?_
            rintro (e | e)
            · have := hw.buf.pq.blk.lt; omega
            · have := (World.ownsRow.lt hw.buf.pq.row _ e).2; omega
          have HBK := Lib.hid hbk
          have HRI := Lib.hid hw.ri
          clear hcv hbp hbk
          by_cases hcode : pushCode s q.size x.time = 0
          · have HC := Lib.hid hcode
            clear hcode hw
            go_wp2_with fail
            refine (HBP.out _).mono ?_
            rw [HC.out]
            rintro e w2 ⟨v2, q2, rfl, hp2⟩
            have hbl := HBK.out _ hp2.fr
            have d1 : w2.cell? ⟨wr.heap.size, 1, none⟩ = some (.int .i64 x.time) := hbl.cell 1
            have R := (HW.out _).rows hp2.fr
            have hs2 : w.heap.size ≤ w2.heap.size := by have := hp2.fr.size; simp at this; omega
            have hr2 := R.2
            rw [HCV.out] at hr2
            clear hbl
            go_wp2_with (at_builtin; refine wpList_append_own_at _ rfl _ _ 39 rfl w.heap.size 3 i3 (.int .i64 0) 1 8 Try.underlying39 hi3 hz30 hz31 hz32 rfl (by decide) _ came.length (came.map (Value.int .i64)) (by rfl) (hr2.alloc _) ⟨w2.heap.size, 0, none⟩ 1 1 [.int .i64 x.time] (by rfl) rfl (cell_one_new w2 _ _) (by intro u hu; simp at hu; subst hu; rfl) (by unfold maxLen; omega) (by omega) (by simp; omega) ?_; intro cv' w4 hown hgrow _ hor)
            have hgrow' : (w2.alloc (.cells #[.int .i64 x.time] 3)).grownBy w4 u8.ownBlock := by rw [HCV.out]; exact hgrow
            have T := (HW.out _).pushOk ha0 (by simp; omega) HC.out hp2 rfl hown hgrow'
            clear hgrow hgrow'
            go_roundw
            case rel => exact ⟨k + 1, _, q2, v2, _, out, by go_num, by omega, T⟩
            case measure => simp [intOf]; omega
          · have hcb : (pushCode s q.size x.time == 0) = false := by simp [hcode]
            have HC := Lib.hid hcode
            clear hcode hw
            go_wp2_with fail
            refine (HBP.out _).mono ?_
            rintro e w2 ⟨v2, q2, rfl, hp2⟩
            have hq2 : q2 = q := by have := hp2.wait; rw [if_neg HC.out] at this; exact this
            subst hq2
            have T := (HW.out _).push ha0 (by simp; omega) hp2 (HRI.out.pushNo HC.out)
            clear hp2
            rw [← HCV.out]
            generalize hpc : pushCode s q2.size x.time = code at *
            clear hpc
            go_wp2_with fail
            go_roundw
            case rel => exact ⟨k + 1, _, q2, v2, came, out, by go_num, by omega, T⟩
            case measure => simp [intOf]; omega
    · have hge : (len1 : Int) ≤ (k : Int) := by omega
      have HRI := Lib.hid (fun (T r : Array Item) (h1 : Taken q T r) (h2 : r.size = 0) => hw.ri.flush h1 h2)
      have HBI := Lib.hid hw.bi
      have HVO := Lib.hid hw.vown
      have HW := Lib.hid hw
      have hbuf := hw.buf
      clear w1 hw hfit hlt
      go_wp2_with fail
      refine (flush_any w.heap.size b v s q wr hbuf).mono ?_
      rintro e w2 ⟨v2, o, t, r, rfl, ho, hb2, ht, hr0, hf4, hv4⟩
      have R := HW.out.rows hf4
      have hts := ht.size
      have hs2 : w.heap.size ≤ w2.heap.size := by have := hf4.size; omega
      have hRS := HRI.out t r ht hr0
      have hf02 : Fr (fun j => w.heap.size ≤ j) w w2 := HW.out.fr.trans hf4 (fun i _ e => by
        rcases e with e | e
        · have := HW.out.buf.pq.le; omega
        · exact HVO.out _ e)
      have hap := HW.out.apart
      clear HRI ht hf4 hbuf
      have hr2 := R.2
      obtain ⟨A8, c8, hcv⟩ : ∃ A c, u8 = .slice A came.length c := by
        rcases hr2.2 with ⟨h1, h2⟩ | ⟨g, cap, cur, h1, _⟩
        · exact ⟨none, 0, by rw [h1, h2]⟩
        · exact ⟨_, _, h1⟩
      rw [hcv] at hr2
      have HCV := Lib.hid hcv
      rw [hcv]
      clear hcv
      have hcl2 : came.length ≤ 100 := by omega
      go_wp2_with (first | (at_builtin; refine wpList_append_rows rfl _ _ 37 rfl w.heap.size 41 i0 _ 5 40 Try.underlying37 hi hz0 hz1 hz2 rfl (by decide) u7 out.size (qCells out) (by rfl) R.1 _ o t.size (qCells t) (by rfl) ho (qCells_one t) (by unfold maxLen; omega) (by omega) hs2 ?_; intro ov' w3 hown hgrow hor; have hs3 := hgrow.size; obtain ⟨AF, cF, hov⟩ := own_shape hown; subst hov) | (at_make; refine wpList_make_full _ rfl _ _ 47 rfl w.heap.size 4 i4 (.bool false) 1 Try.underlying47 hi4 hz40 hz41 _ _ _ _ came.length (by rfl) (by rfl) rfl rfl (by rw [hz42]; omega) (by unfold maxLen; omega) (by omega) ?_; intro w4 hseen hgr4))
      have hf3 := Fr.of_grown hgrow
      have hf4 := Fr.of_grown hgr4
      have hrs := hRS.size
      have e0 : qCells (out ++ t) = qCells out ++ qCells t := by simp [qCells]
      rw [← e0] at hown
      have hb4 : IsBuf w4 w.heap.size b v2 _ r := (hb2.fr hf3 (own_blk_ne R.1 hb2.pq.blk (by decide)) (fun j hj e => hap j e (by rw [← hv4]; exact hj))).fr hf4 (fun e => by cases e) (fun j hj e => by cases e)
      have hc4 : w4.ownsRow w.heap.size 3 1 (.slice A8 came.length c8) came.length (came.map (Value.int .i64)) := ownsRow_fr (ownsRow_fr hr2 hf3 (fun j hj e => own_own_ne R.1 hr2 (by decide) j e hj)) hf4 (fun j hj e => by cases e)
      have ho4 : w4.ownsRow w.heap.size 41 5 (.slice AF (out.size + t.size) cF) (out.size + t.size) (qCells (out ++ t)) := ownsRow_fr hown hf4 (fun j hj e => by cases e)
      have hf04 : Fr (fun j => w.heap.size ≤ j) w w4 := (hf02.trans hf3 (fun j _ e => (World.ownsRow.lt R.1 j e).1)).trans hf4 (fun j _ e => by cases e)
      have hse : (madeCells (Value.bool false).cells (came.length * 1)).toList = (seenL (out ++ t) 0 came.length).map Value.bool := by
        rw [show (Value.bool false).cells = #[Value.bool false] from rfl, toList_madeCells_one, seenL_zero, Nat.mul_one]
      rw [hse] at hseen
      have hnn : (out ++ t).size = out.size + t.size := Array.size_append
      generalize (out ++ t) = F at *
      have hsb : w3.heap.size ≠ b := by have := hb2.pq.blk.lt; omega
      clear hown hb2 hr2 R hf02 hf3 hf4 hgrow hgr4 hor hse e0 hap ho hosz hts
      generalize w3.heap.size = sg at *
      have e9 : out.size + t.size = came.length := hnn.symm.trans hrs
      clear hnn
      rw [e9] at ho4 ⊢
      go_wp2_with fail
      go_loopw [74] (fun jv wi => ∃ (j : Nat), jv = .int .i64 (j : Int) ∧ j ≤ came.length ∧ wi.ownsRow w.heap.size 4 1 (.slice (some ⟨sg, 0, none⟩) came.length came.length) came.length ((seenL F j came.length).map Value.bool) ∧ Fr (fun i => i = sg) w4 wi) (fun jv _ => came.length - (intOf jv).toNat)
      case atStart => exact ⟨0, rfl, by omega, hseen, Fr.refl _ _⟩
      case round =>
        obtain ⟨j, rfl, hj, hse, hfi⟩ := hrel
        have hsF : ∀ g, AF = some ⟨g, 0, none⟩ → g ≠ sg := fun g hg e => own_own_ne ho4 hseen (by decide) g (by rw [hg]; rfl) (by rw [← e]; rfl)
        have hs8 : ∀ g, A8 = some ⟨g, 0, none⟩ → g ≠ sg := fun g hg e => own_own_ne hc4 hseen (by decide) g (by rw [hg]; rfl) (by rw [← e]; rfl)
        by_cases hjl : j < came.length
        · have hjF : j < F.size := by omega
          obtain ⟨kk, hkk, hk0, hks, hkt⟩ := hRS.at_ hjF
          have hoi : wr.ownsRow w.heap.size 41 5 (.slice AF came.length cF) came.length (qCells F) := ownsRow_fr ho4 hfi (fun g hg e => by
            subst e
            cases hA : AF with
            | none => rw [hA] at hg; cases hg
            | some ad =>
              obtain ⟨g, c, h1, _, _⟩ := World.ownsRow.form ho4 (by omega)
              rw [hA] at hg h1
              injection h1 with h1 _ _
              injection h1 with h1
              subst h1
              injection hg with hg
              exact hsF _ hA hg)
          have hci : wr.ownsRow w.heap.size 3 1 (.slice A8 came.length c8) came.length (came.map (Value.int .i64)) := ownsRow_fr hc4 hfi (fun g hg e => by
            subst e
            cases hA : A8 with
            | none => rw [hA] at hg; cases hg
            | some ad =>
              obtain ⟨g, c, h1, _, _⟩ := World.ownsRow.form hc4 (by omega)
              rw [hA] at hg h1
              injection h1 with h1 _ _
              injection h1 with h1
              subst h1
              injection hg with hg
              exact hs8 _ hA hg)
          obtain ⟨gF, cF', hvF, -, -⟩ := World.ownsRow.form hoi (by omega)
          obtain ⟨g8, c8', hv8, -, -⟩ := World.ownsRow.form hci (by omega)
          injection hvF with hvF _ hvFc
          injection hv8 with hv8 _ hv8c
          subst hvF hvFc hv8 hv8c
          have hcF := own_le hoi
          have hc8 := own_le hci
          rw [← hrs] at hoi
          have hoq : QRow wr w.heap.size (.slice (some ⟨gF, 0, none⟩) F.size cF) F := hoi
          obtain ⟨d0, d1, d2, d3, d4⟩ := hoq.cells hjF
          have d8 : wr.cell? ⟨g8, kk, none⟩ = some (.int .i64 F[j]!.t) := by
            rw [World.ownsRow.cellAt hci kk (by omega), hkt]
            simp [List.getD_eq_getElem?_getD, hkk]
          have dS : wr.cell? ⟨sg, kk, none⟩ = some (.bool false) := by
            rw [World.ownsRow.cellAt hse kk (by omega), List.getElem?_map, hRS.seen_get hjF hk0 hkk]
            rfl
          have dSf := World.ownsRow.frozenAt hse kk
          have sgl := World.block_lt_of_cell? wr _ dS
          have g8l := World.block_lt_of_cell? wr _ d8
          have gFl := World.block_lt_of_cell? wr _ d0
          simp only at sgl g8l gFl
          rw [hks] at d1
          rw [hk0] at d2
          have hkk' : (kk : Int) < (came.length : Int) := by omega
          have hjl' : (j : Int) < (came.length : Int) := by omega
          have hkn : decide ((kk : Int) < 0) = false := decide_eq_false (by omega)
          have hkl : decide ((came.length : Int) ≤ (kk : Int)) = false := decide_eq_false (by omega)
          have hkl2 : decide (came.length ≤ kk) = false := decide_eq_false (by omega)
          have HSET := Lib.hid (seen_set (n := came.length) hjF hk0)
          by_cases hj0 : j = 0
          · subst hj0
            generalize F[0]!.t = tt at *
            generalize F[0]!.k1 = y1 at *
            generalize F[0]!.k2 = y2 at *
            clear hk0 hks hkt hoi hci hoq hsF hs8
            go_wp2_with fail
            go_big_quiet (fail)
            go_wp2_with fail
            go_roundw
            case rel =>
              have hst := World.ownsRow.stored (w := (wr.alloc (.cells #[.int .i64 tt, .int .i64 kk, .int .i64 kk, .int .i64 y1, .int .i64 y2] 41)).drewN nq) (hse.alloc _) kk (.bool true)
              refine ⟨0 + 1, by go_num, by omega, ?_, ?_⟩
              · have h1 := hst.1
                rw [show ((seenL F 0 came.length).map Value.bool).set kk (Value.bool true) = ((seenL F 0 came.length).set kk true).map Value.bool from (List.map_set).symm, HSET.out] at h1
                exact h1
              · exact ((hfi.alloc _).drewN nq).trans (Fr.of_grown hst.2) (fun i _ e => by injection e with e; exact e.symm)
            case measure => simp [intOf]; omega
          · obtain ⟨jp, rfl⟩ : ∃ jp, j = jp + 1 := ⟨j - 1, by omega⟩
            obtain ⟨p0, p1, -, -, -⟩ := hoq.cells (i := jp) (by omega)
            have hle2 := hRS.rises (j := jp) hjF
            unfold le at hle2
            rw [hks] at hle2
            generalize F[jp]!.t = tp at *
            generalize F[jp]!.s = sp at *
            generalize F[jp + 1]!.t = tt at *
            generalize F[jp + 1]!.k1 = y1 at *
            generalize F[jp + 1]!.k2 = y2 at *
            have n0 : (0 : Int) < (jp : Int) + 1 := by omega
            have n1 : (jp : Int) < (came.length : Int) := by omega
            clear hk0 hks hkt hoi hci hoq hsF hs8 hj0
            rcases hle2 with hlt2 | ⟨heq2, hsle⟩
            · have hge2 : tp ≤ tt := by omega
              have hgt2 : decide (tt < tp) = false := decide_eq_false (by omega)
              have hne2 : (tp == tt) = false := beq_eq_false_iff_ne.2 (by omega)
              go_wp2_with fail
              go_big_quiet (fail)
              go_wp2_with fail
              go_roundw
              case rel =>
                have hst := World.ownsRow.stored (w := (wr.alloc (.cells #[.int .i64 tt, .int .i64 kk, .int .i64 kk, .int .i64 y1, .int .i64 y2] 41)).drewN nq) (hse.alloc _) kk (.bool true)
                refine ⟨(jp + 1) + 1, by go_num, by omega, ?_, ?_⟩
                · have h1 := hst.1
                  rw [show ((seenL F (jp + 1) came.length).map Value.bool).set kk (Value.bool true) = ((seenL F (jp + 1) came.length).set kk true).map Value.bool from (List.map_set).symm, HSET.out] at h1
                  exact h1
                · exact ((hfi.alloc _).drewN nq).trans (Fr.of_grown hst.2) (fun i _ e => by injection e with e; exact e.symm)
              case measure => simp [intOf]; omega
            · have heq3 := heq2.symm
              subst heq3
              have hsg2 : decide ((kk : Int) < sp) = false := decide_eq_false (by omega)
              go_wp2_with fail
              go_big_quiet (fail)
              go_wp2_with fail
              go_roundw
              case rel =>
                have hst := World.ownsRow.stored (w := (wr.alloc (.cells #[.int .i64 tt, .int .i64 kk, .int .i64 kk, .int .i64 y1, .int .i64 y2] 41)).drewN nq) (hse.alloc _) kk (.bool true)
                refine ⟨(jp + 1) + 1, by go_num, by omega, ?_, ?_⟩
                · have h1 := hst.1
                  rw [show ((seenL F (jp + 1) came.length).map Value.bool).set kk (Value.bool true) = ((seenL F (jp + 1) came.length).set kk true).map Value.bool from (List.map_set).symm, HSET.out] at h1
                  exact h1
                · exact ((hfi.alloc _).drewN nq).trans (Fr.of_grown hst.2) (fun i _ e => by injection e with e; exact e.symm)
              case measure => simp [intOf]; omega
        · have hje : (came.length : Int) ≤ (j : Int) := by omega
          have HR0 := Lib.hid hr0
          have hb5 := hb4.fr hfi (Ne.symm hsb) (fun g hg e => by
            subst e
            exact own_own_ne hb4.pq.row hseen (by decide) g hg rfl)
          have hcl5 := hb5.pq.blk
          clear hsF hs8 hr0
          go_wp2_with fail
          refine (blen_any _ b v2 _ r wr hb5).mono ?_
          rw [HR0.out]
          rintro e w5 ⟨rfl, rfl⟩
          go_wp2_with fail
          refine (closed_any b v2 _ wr hcl5).mono ?_
          rintro e w5 ⟨rfl, rfl⟩
          go_wp2_with fail
          refine (push_closed w.heap.size b v2 _ r 5 0 0 0 wr hb5 rfl).mono ?_
          rintro e w6 ⟨v6, q6, rfl, hp6⟩
          have hc6 : pushCode { s with closed := true } r.size 5 = 14 := by simp [pushCode]
          rw [hc6]
          have hv2 : ∀ j, v2.ownBlock = some j → w.heap.size ≤ j := fun j hj => HVO.out j (by rw [← hv4]; exact hj)
          have hsz5 := hf04.size
          have hF6 := hp6.frame (n := w.heap.size) hb5.pq.le hv2 (by have := hfi.size; omega)
          have hsgl : w.heap.size ≤ sg := (World.ownsRow.lt hseen sg rfl).1
          go_wp2_with fail
          go_ret
          exact ⟨rfl, ((hf04.trans' (hfi.mono fun _ _ e => by omega)).trans' hF6.1).toBelow⟩

end Go.Proofs.Ytgcmdoinihehcaa
