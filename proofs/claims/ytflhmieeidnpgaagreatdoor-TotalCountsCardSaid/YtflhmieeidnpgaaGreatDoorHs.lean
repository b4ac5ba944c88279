/- TotalCounts: walked. -/
import Derived.Test.YtflhmieeidnpgaaGreatDoorHr
import Derived.Deep.CutBlock
import Derived.Deep.RegionLawGrows
import Derived.Deep.Cut
import Derived.Deep.CutRange
import Derived.WalkKit
import Derived.WalkLawsBesides
import Derived.WalkSpells
import Derived.Deep.QuietTactic
import Derived.BigRegion
import Derived.BigQuiet
import Derived.Lib.Hide
import Derived.Outline
import Derived.Deep.AppendLies
import Derived.Deep.RegionLaw
import Derived.Deep.RegionWith
import Derived.Deep.RegionHeld3
import Derived.Deep.LoopGhost
import Derived.Deep.DeepFit
import Derived.Laws.ResultCell
import Derived.Laws.RangeAny
import Derived.Deep.MidRow
import Derived.StillTailTactics
import Derived.OpenShut
namespace Go.Proofs.YtflhmieeidnpgaaGreatDoor
set_option linter.unusedVariables false
open Go.RowKit Go

set_option maxRecDepth 100000 in
set_option maxHeartbeats 4000000 in
theorem countsLaw_any (pick : Int) (hp0 : 0 ≤ pick) (hp1 : pick ≤ 255) (a : Option Addr) (len cap : Nat) (zs : List D3) (w : World) (hin : IsIn w a len cap zs) (hlen : len ≤ maxLen) (hg : Glob w) :
    Calls Tryz.prog 5 #[.int .u8 pick, .slice a len cap] w (IsB true w) := by
  have HA := Lib.hid (fun w => awake_any w)
  have HIN := Lib.hid hin
  have HL := Lib.hid hlen
  have HG := Lib.hid hg
  clear hin hlen hg
  go_enter Tryz.func5, Tryz.ntmps5
  go_wp2_with fail
  refine (HA.out _).mono ?_
  rintro e w1 ⟨rfl, hf1⟩
  have HF1 := Lib.hid hf1
  have HB := Lib.hid (build_any a len cap zs w1 (HIN.out.later hf1) HL.out)
  clear hf1
  go_wp2_with fail
  refine HB.out.mono ?_
  rintro e w2 (⟨rfl, hf2⟩ | ⟨n, b, r, vt, tv, vf, vals, hn8, hnz, rfl, hd, ht, hr, hf2, hok⟩)
  · have HF2 := Lib.hid (HF1.out.trans' hf2)
    clear hf2
    go_wp2_with fail
    go_ret
    exact ⟨rfl, HF2.out.alloc _⟩
  · have HF2 := Lib.hid (HF1.out.trans' hf2)
    obtain ⟨vg, vc, vr, rvals, rfl, hvars, hrows⟩ := ht
    obtain ⟨hrl, hfl, htl, hr3⟩ := bTo_len zs n
    have HSH := Lib.hid (bTo_short zs n hok)
    have htl2 : (bTo zs n).ts.length ≤ 100000 := by omega
    obtain ⟨A0, c0, hvr⟩ := row_shape hrows.own
    subst hvr
    rw [hrl]
    rw [hrl] at hrows
    have hrows2 : RowsAt w2 w1.heap.size (.slice A0 n c0) rvals (bTo zs n).rows := hrows
    obtain ⟨g, m, j, hix, hm, hjg⟩ := byC_idx pick hp0 (w2.heap.size + 1) (w2.heap.size + 1 + 1) (w2.heap.size + 1 + 1 + 1)
    have hT0 := Blk.new w2 29 #[.slice (some ⟨vg, 0, none⟩) 3 vc, .slice A0 n c0]
    have hA0 := Blk.newOf (w := (w2.alloc (.cells #[.slice (some ⟨vg, 0, none⟩) 3 vc, .slice A0 n c0] 29))) (g := w2.heap.size + 1) 9 #[.string ⟨#[97]⟩] (by simp)
    have hB0 := Blk.newOf (w := ((w2.alloc (.cells #[.slice (some ⟨vg, 0, none⟩) 3 vc, .slice A0 n c0] 29)).alloc (.cells #[.string ⟨#[97]⟩] 9))) (g := w2.heap.size + 1 + 1) 9 #[.string ⟨#[98]⟩] (by simp)
    have hC0 := Blk.newOf (w := (((w2.alloc (.cells #[.slice (some ⟨vg, 0, none⟩) 3 vc, .slice A0 n c0] 29)).alloc (.cells #[.string ⟨#[97]⟩] 9)).alloc (.cells #[.string ⟨#[98]⟩] 9))) (g := w2.heap.size + 1 + 1 + 1) 9 #[.string ⟨#[97]⟩, .string ⟨#[99]⟩] (by simp)
    have F5 : Fr (fun _ => False) w2 ((((w2.alloc (.cells #[.slice (some ⟨vg, 0, none⟩) 3 vc, .slice A0 n c0] 29)).alloc (.cells #[.string ⟨#[97]⟩] 9)).alloc (.cells #[.string ⟨#[98]⟩] 9)).alloc (.cells #[.string ⟨#[97]⟩, .string ⟨#[99]⟩] 9)) := ((((Fr.refl _ _).alloc _).alloc _).alloc _).alloc _
    have hT5 := ((hT0.alloc (.cells #[.string ⟨#[97]⟩] 9)).alloc (.cells #[.string ⟨#[98]⟩] 9)).alloc (.cells #[.string ⟨#[97]⟩, .string ⟨#[99]⟩] 9)
    have hbr := byC_row _ _ _ ((hA0.alloc (.cells #[.string ⟨#[98]⟩] 9)).alloc (.cells #[.string ⟨#[97]⟩, .string ⟨#[99]⟩] 9)) (hB0.alloc (.cells #[.string ⟨#[97]⟩, .string ⟨#[99]⟩] 9)) hC0 hm hjg
    have hbl := byC_len j
    rw [← hm] at hbl
    have hbk := byC_ok j
    have HGR := Lib.hid (groups_any vg vc g m 0 w1.heap.size w1.heap.size (.slice A0 n c0) rvals (bTo zs n).rows (byC j) _ hbk (by rw [← hm]; omega) (by rw [← hm]; omega) (by rw [hrl]; exact hn8) (fun r hr => (hr3 r hr).1) hbr (ownsRow_fr hvars F5 (fun _ _ h => h)) (hrows2.frF F5))
    rw [← hm] at HGR
    have HV2 := Lib.hid hvars
    have HR2 := Lib.hid hrows2
    have HR3 := Lib.hid hr3
    have HRL := Lib.hid hrl
    have HD2 := Lib.hid hd
    have HT5 := Lib.hid hT5
    have HF5 := Lib.hid F5
    have HGO := Lib.hid (groupsTo_ok (byC j) (bTo zs n).rows (fun r hr => (hr3 r hr).1) n (by rw [hrl]; exact Nat.le_refl _))
    have HCO := Lib.hid (groups_cover (byC j) (bTo zs n).rows n)
    have HGS := Lib.hid (fun f => gSum_groups f (byC j) (bTo zs n).rows n)
    generalize (bTo zs n).rows = rows at *
    generalize (bTo zs n).ts = ts at *
    generalize byC j = ks at *
    clear hm hf2 hok hd hr hfl hvars hrows hrows2 hr3 hrl hjg hT0 hA0 hB0 hC0 F5 hT5 hbr hbk htl
    go_wp2_with fail
    with_reducible refine HGR.out.mono ?_
    rintro e w6 ⟨gv, ps, rfl, hgv6, hf6⟩
    rw [HRL.out] at hgv6
    have F6 : Fr (fun _ => False) w2 w6 := HF5.out.trans' hf6
    have HF6 := Lib.hid (HF2.out.trans' F6)
    have HG6 := Lib.hid (HG.out.fr HF6.out)
    have HT6 := Lib.hid (HT5.out.fr hf6 (fun h => h))
    have HV6 := Lib.hid (ownsRow_fr HV2.out F6 (fun _ _ h => h))
    have HR6 := Lib.hid (HR2.out.frF F6)
    have HD6 := Lib.hid (HD2.out.frF F6)
    have HGRP := Lib.hid hgv6
    obtain ⟨Ag, cg, hgvs⟩ := row_shape hgv6.own
    subst hgvs
    have hmem : ∀ g, g ∈ groupsTo ks rows n → ∀ r, r ∈ g → r.length = 3 := fun g hg r hr => (HGO.out.2 g hg).2.2 r hr
    have hglen := HGO.out.1
    generalize groupsTo ks rows n = gs at *
    generalize hgl : gs.length = gn at *
    have HGL := Lib.hid hgl
    have HMEM := Lib.hid hmem
    clear hgl hgv6 hf6 F6 hmem
    go_wp2_with fail
    go_loopw [10, 11, 12, 47] (fun nv sv tv iv wr => ∃ (i : Nat) (N s : Int) (th : Bool), iv = .int .i64 (i : Int) ∧ nv = .int .i64 N ∧ sv = .int .i64 s ∧ tv = .bool th ∧ i ≤ gn ∧ Fr (fun _ => False) w6 wr ∧ 0 ≤ N ∧ N ≤ 8 * i ∧ N = gSum (fun _ => 1) gs i ∧ -(1125899906842624 * i) ≤ s ∧ s ≤ 1125899906842624 * i ∧
      (th = true → s = gSum (rowInt ts 1 true) gs i ∧ ∀ j, j < i → ∀ r, r ∈ gs.getD j [] → rowOk ts 1 true r)) (fun _ _ _ iv _ => gn - (intOf iv).toNat)
    case atStart => exact ⟨0, 0, 0, true, rfl, rfl, rfl, rfl, Nat.zero_le _, Fr.refl _ _, by omega, by omega, rfl, by omega, by omega, fun _ => ⟨rfl, fun j hj => absurd hj (Nat.not_lt_zero _)⟩⟩
    case round =>
      obtain ⟨i, N, s, th, rfl, rfl, rfl, rfl, hi, hf, hN0, hN1, hNe, hs0, hs1, hth⟩ := hrel
      have HFI := Lib.hid hf
      have HNE := Lib.hid hNe
      have HTH := Lib.hid hth
      clear hNe hth
      by_cases hil : i < gn
      · have hil' : decide (i < gn) = true := by simpa using hil
        have hil2 : (i : Int) < (gn : Int) := by omega
        have hilg : i < gs.length := by rw [HGL.out]; exact hil
        have hg6 := HGRP.out.frF hf
        have hgo := hg6.own
        rw [HGL.out] at hgo
        obtain ⟨og, rfl, _, _, _⟩ := row_form hgo (by omega)
        obtain ⟨p1, p2⟩ := pairs_at ps i (by rw [hg6.len]; exact hilg)
        have c0 := World.ownsRow.cellAt hgo (i * 2) (by omega) |>.trans p1
        have c1 := World.ownsRow.cellAt hgo (i * 2 + 1) (by omega) |>.trans p2
        have hgi := hg6.each i hilg
        obtain ⟨pv, pc, hp1⟩ := hgi.vars
        obtain ⟨gvals, hgr⟩ := hgi.rows
        obtain ⟨Ap, cp, hp2⟩ := row_shape hgr.own
        have hgst := hgi.strs
        obtain ⟨hgpos, hgn8, hg3⟩ := HGO.out.2 _ (getD_mem (l := gs) (d := []) hilg)
        rw [hp1] at c0 hgst
        rw [hp2] at c1 hgr
        obtain ⟨gr, hgrr⟩ : ∃ gr, gs.getD i [] = gr := ⟨_, rfl⟩
        rw [hgrr] at c1 hgr hgpos hgn8 hg3
        have HGRR := Lib.hid hgrr
        generalize hgrl : gr.length = gl at *
        have HGRL := Lib.hid hgrl
        have hg3' : ∀ r, r ∈ gr → r.length = 3 := hg3
        have HCNT := Lib.hid (fun d w => foldAll_any ⟨#[67, 79, 85, 78, 84]⟩ .nilIface 3 pc cp Ap (some ⟨pv, 0, none⟩) gl (by omega) d w)
        have hCI := asIntT_int (gl : Int) (by omega) (by omega)
        rw [← smallTm_int] at hCI
        have hCS : (smallTm gl).short := by rw [smallTm_int]; exact intTm_short _ (by omega) (by omega)
        have HCAI := Lib.hid (fun w hg => asInt_any (smallTm gl) w hCS hg)
        rw [hCI] at HCAI
        dsimp only at HCAI
        have HSUM := Lib.hid (fun wy (hf : Fr (fun _ => False) wr wy) => foldSum_any pv pc _ _ _ b r vt (.slice Ap gl cp) gvals ts 1000 gr wy (by rw [HGRL.out]; omega) hg3' htl2 HSH.out (ownsRow_fr hgst hf (fun _ _ h => h)) (hgr.frF hf) (HD6.out.frF (HFI.out.trans' hf)) (HG6.out.fr (HFI.out.trans' hf)))
        have hNn : gSum (fun _ => 1) gs (i + 1) = gSum (fun _ => 1) gs i + gl := by
          show gSum (fun _ => 1) gs i + iSum (fun _ => (1 : Int)) (gs.getD i default) (gs.getD i default).length = _
          rw [one_sum]
          have e : gs.getD i default = gr := HGRR.out
          rw [e, HGRL.out]
        have hSn : gSum (rowInt ts 1 true) gs (i + 1) = gSum (rowInt ts 1 true) gs i + iSum (rowInt ts 1 true) gr gr.length := by
          show gSum (rowInt ts 1 true) gs i + iSum (rowInt ts 1 true) (gs.getD i default) (gs.getD i default).length = _
          have e : gs.getD i default = gr := HGRR.out
          rw [e]
        have HNN := Lib.hid hNn
        have HSN := Lib.hid hSn
        have hbx := Blk.new wr 29 #[.slice (some ⟨pv, 0, none⟩) 3 pc, .slice Ap gl cp]
        have HBX := Lib.hid hbx
        have hgl1 : (1 : Int) ≤ (gl : Int) := by omega
        have hgl8 : ¬ (8 : Int) < (gl : Int) := by omega
        have hgl0 : ¬ (gl : Int) < 1 := by omega
        obtain ⟨sd, sx, hsv⟩ := (smallTm gl).shape
        rw [hsv] at HCNT HCAI
        clear hg6 hgo p1 p2 hgi hgr hgst hg3 hg3' hp1 hp2 hgrl hgrr hCI hCS hNn hSn hbx hf hsv
        go_wp2_with fail
        with_reducible refine (HCNT.out _ _).mono ?_
        rintro e w7 ⟨rfl, hf7⟩
        have F7 : Fr (fun _ => False) wr w7 := ((Fr.refl _ _).alloc _).trans' hf7
        have HF7 := Lib.hid F7
        have hb7 := HBX.out.fr hf7 (fun h => h)
        have HB7 := Lib.hid hb7
        clear hf7 F7 hb7
        go_wp2_with fail
        with_reducible refine (HCAI.out _ (HG6.out.fr (HFI.out.trans' HF7.out))).mono ?_
        rintro e w8 ⟨rfl, hf8⟩
        have HF8 := Lib.hid (HF7.out.trans' hf8)
        have hb8 := HB7.out.fr hf8 (fun h => h)
        have b0 : w8.cell? ⟨wr.heap.size, 0, none⟩ = some (.slice (some ⟨pv, 0, none⟩) 3 pc) := hb8.cell 0
        have b1 : w8.cell? ⟨wr.heap.size, 1, none⟩ = some (.slice Ap gl cp) := hb8.cell 1
        clear hf8 hb8
        go_wp2_with fail
        with_reducible refine (HSUM.out _ HF8.out).mono ?_
        rintro e w9 ⟨hf9, ⟨sg, rfl, hsi⟩ | ⟨rfl, hsi⟩⟩
        · have HF9 := Lib.hid (HF8.out.trans' hf9)
          obtain ⟨hro, hse, hsl, hsh⟩ := sumIs_iff.1 hsi
          have HRO := Lib.hid hro
          have HSE := Lib.hid hse
          have HAI := Lib.hid (fun w hg => asInt_any (intTm sg) w (intTm_short sg hsl hsh) hg)
          rw [asIntT_int sg hsl hsh] at HAI
          dsimp only at HAI
          obtain ⟨td, tx, htv⟩ := (intTm sg).shape
          rw [htv] at HAI ⊢
          clear hf9 hsi hro hse htv
          go_wp2_with fail
          with_reducible refine (HAI.out _ (HG6.out.fr (HFI.out.trans' HF9.out))).mono ?_
          rintro e w10 ⟨rfl, hf10⟩
          have HF10 := Lib.hid (HF9.out.trans' hf10)
          clear hf10
          by_cases hg1 : 1125899906842624 < sg
          · go_wp2_with fail
            go_roundw
            case rel => exact ⟨i + 1, N + gl, s, false, by go_num, rfl, rfl, rfl, by omega, HFI.out.trans' HF10.out, by omega, by omega, by rw [HNN.out, ← HNE.out], by omega, by omega, fun h => by cases h⟩
            case measure => simp [intOf]; omega
          · by_cases hg2 : sg < -1125899906842624
            · go_wp2_with fail
              go_roundw
              case rel => exact ⟨i + 1, N + gl, s, false, by go_num, rfl, rfl, rfl, by omega, HFI.out.trans' HF10.out, by omega, by omega, by rw [HNN.out, ← HNE.out], by omega, by omega, fun h => by cases h⟩
              case measure => simp [intOf]; omega
            · go_wp2_with fail
              go_roundw
              case rel => exact ⟨i + 1, N + gl, s + sg, th, by go_num, rfl, rfl, rfl, by omega, HFI.out.trans' HF10.out, by omega, by omega, by rw [HNN.out, ← HNE.out], by omega, by omega, fun h => by
                obtain ⟨y1, y2⟩ := HTH.out h
                refine ⟨by rw [HSN.out, ← y1, ← HSE.out], fun j hj q hq => ?_⟩
                by_cases e : j = i
                · rw [e, HGRR.out] at hq
                  exact HRO.out q hq
                · exact y2 j (by omega) q hq⟩
              case measure => simp [intOf]; omega
        · have HF9 := Lib.hid (HF8.out.trans' hf9)
          have HAN := Lib.hid (fun w => asInt_nil w)
          clear hf9 hsi
          go_wp2_with fail
          with_reducible refine (HAN.out _).mono ?_
          rintro e w10 ⟨rfl, hf10⟩
          have HF10 := Lib.hid (HF9.out.trans' hf10)
          clear hf10
          go_wp2_with fail
          go_roundw
          case rel => exact ⟨i + 1, N + gl, s, false, by go_num, rfl, rfl, rfl, by omega, HFI.out.trans' HF10.out, by omega, by omega, by rw [HNN.out, ← HNE.out], by omega, by omega, fun h => by cases h⟩
          case measure => simp [intOf]; omega
      · have hil' : decide (i < gn) = false := by simpa using hil
        have hin : i = gn := by omega
        subst hin
        have hN : N = (n : Int) := by rw [HNE.out, HGS.out, one_sum]
        subst hN
        have F26 : Fr (fun _ => False) w6 wr := hf
        have hT := HT6.out.fr hf (fun h => h)
        have HTB := Lib.hid hT
        have t0 : wr.cell? ⟨w2.heap.size, 0, none⟩ = some (.slice (some ⟨vg, 0, none⟩) 3 vc) := hT.cell 0
        have t1 : wr.cell? ⟨w2.heap.size, 1, none⟩ = some (.slice A0 n c0) := hT.cell 1
        have HCNT := Lib.hid (fun d w => foldAll_any ⟨#[67, 79, 85, 78, 84]⟩ .nilIface 3 vc c0 A0 (some ⟨vg, 0, none⟩) n (by omega) d w)
        have HINT := Lib.hid (fun w => int_small n (by omega) w)
        have HSA := Lib.hid (fun w => same_any (smallTm n) (smallTm n) w)
        have hsb : sameB (smallTm n) (smallTm n) = true := sameB_iff.2 rfl
        rw [hsb] at HSA
        have HSUM := Lib.hid (fun wy (hf : Fr (fun _ => False) w6 wy) => foldSum_any vg vc _ _ _ b r vt (.slice A0 n c0) rvals ts 1000 rows wy (by rw [HRL.out]; omega) (fun r hr => (HR3.out r hr).1) htl2 HSH.out (ownsRow_fr HV6.out hf (fun _ _ h => h)) (HR6.out.frF hf) (HD6.out.frF hf) (HG6.out.fr hf))
        have HBIG := Lib.hid (fun wy (hf : Fr (fun _ => False) w6 wy) => big_any vg vc _ _ _ b r vt (.slice A0 n c0) rvals ts 1000 rows wy (by rw [HRL.out]; omega) (fun r hr => (HR3.out r hr).1) htl2 HSH.out (ownsRow_fr HV6.out hf (fun _ _ h => h)) (HR6.out.frF hf) (HD6.out.frF hf) (HG6.out.fr hf))
        have HSI : Hid (th = true → SumIs (termsTo ts 1 true rows rows.length) s) := Lib.hid (fun h => by
          obtain ⟨y1, y2⟩ := HTH.out h
          rw [HGS.out] at y1
          refine sumIs_iff.2 ⟨fun r hr => ?_, by rw [HRL.out]; exact y1, by omega, by omega⟩
          obtain ⟨q, hq, rfl⟩ := List.getElem_of_mem hr
          have hm := HCO.out q (by rw [← HRL.out]; exact hq)
          rw [List.mem_flatten] at hm
          obtain ⟨g', hg', hrg⟩ := hm
          obtain ⟨z, hz, rfl⟩ := List.getElem_of_mem hg'
          have h3 := y2 z (by rw [← HGL.out]; exact hz) (rows.getD q [])
          rw [List.getD_eq_getElem?_getD (l := gs), List.getElem?_eq_getElem hz] at h3
          have h4 := h3 hrg
          rw [List.getD_eq_getElem?_getD, List.getElem?_eq_getElem hq] at h4
          exact h4)
        unfold smallTm Tm.val at HCNT HSA
        generalize (⟨(Lib.decDigits n).toArray⟩ : ByteArray) = dn at *
        clear hf hT hsb
        generalize hxi : xInt = xi at *
        have HXI := Lib.hid hxi
        clear hxi
        go_wp2_with fail
        with_reducible refine (HCNT.out _ _).mono ?_
        rintro e w7 ⟨rfl, hf7⟩
        have HF7 := Lib.hid (F26.trans' hf7)
        clear hf7
        go_wp2_with fail
        with_reducible refine (HINT.out _).mono ?_
        rintro e w8 ⟨rfl, hf8⟩
        have HF8 := Lib.hid (HF7.out.trans' hf8)
        clear hf8
        go_wp2_with fail
        with_reducible refine (HSA.out _).mono ?_
        rintro e w9 ⟨rfl, rfl⟩
        have hT8 := HT6.out.fr HF8.out (fun h => h)
        have u0 : w8.cell? ⟨w2.heap.size, 0, none⟩ = some (.slice (some ⟨vg, 0, none⟩) 3 vc) := hT8.cell 0
        have u1 : w8.cell? ⟨w2.heap.size, 1, none⟩ = some (.slice A0 n c0) := hT8.cell 1
        clear hT8 t0 t1
        go_wp2_with fail
        with_reducible refine (HSUM.out _ HF8.out).mono ?_
        rintro e w9 ⟨hf9, hcs⟩
        have HF9 := Lib.hid (HF8.out.trans' hf9)
        have hT9 := HT6.out.fr HF9.out (fun h => h)
        have x0 : w9.cell? ⟨w2.heap.size, 0, none⟩ = some (.slice (some ⟨vg, 0, none⟩) 3 vc) := hT9.cell 0
        have x1 : w9.cell? ⟨w2.heap.size, 1, none⟩ = some (.slice A0 n c0) := hT9.cell 1
        clear hf9 hT9 u0 u1
        cases th with
        | false =>
          rcases hcs with ⟨sg, rfl, -⟩ | ⟨rfl, -⟩
          · obtain ⟨td, tx, htv⟩ := (intTm sg).shape
            rw [htv]
            clear htv
            go_wp2_with fail
            go_ret
            exact ⟨rfl, HF6.out.trans' HF9.out⟩
          · go_wp2_with fail
            go_ret
            exact ⟨rfl, HF6.out.trans' HF9.out⟩
        | true =>
          have hsi := HSI.out rfl
          rcases hcs with ⟨sg, rfl, hsg⟩ | ⟨rfl, hno⟩
          · have e1 : sg = s := by rw [hsg.2.1, hsi.2.1]
            subst e1
            have HIN := Lib.hid (fun w hg => int_any sg hsi.2.2.1 hsi.2.2.2 w hg)
            have HSM := Lib.hid (fun w => same_any (intTm sg) (intTm sg) w)
            have hsb : sameB (intTm sg) (intTm sg) = true := sameB_iff.2 rfl
            rw [hsb] at HSM
            unfold intTm Tm.val at HSM ⊢
            rw [HXI.out] at HIN HSM ⊢
            generalize (⟨(Lib.itoa sg).toArray⟩ : ByteArray) = is at *
            clear hsi hsg hsb
            go_wp2_with fail
            with_reducible refine (HBIG.out _ HF9.out).mono ?_
            rintro e w10 ⟨⟨q, rfl⟩, hf10⟩
            have HF10 := Lib.hid (HF9.out.trans' hf10)
            clear hf10
            cases q with
            | true =>
              go_wp2_with fail
              go_ret
              exact ⟨rfl, HF6.out.trans' HF10.out⟩
            | false =>
              go_wp2_with fail
              with_reducible refine (HIN.out _ (HG6.out.fr HF10.out)).mono ?_
              rintro e w11 ⟨rfl, hf11⟩
              have HF11 := Lib.hid (HF10.out.trans' hf11)
              clear hf11
              go_wp2_with fail
              with_reducible refine (HSM.out _).mono ?_
              rintro e w12 ⟨rfl, rfl⟩
              go_wp2_with fail
              go_ret
              exact ⟨rfl, HF6.out.trans' HF11.out⟩
          · exact absurd hsi (hno s)

end Go.Proofs.YtflhmieeidnpgaaGreatDoor
