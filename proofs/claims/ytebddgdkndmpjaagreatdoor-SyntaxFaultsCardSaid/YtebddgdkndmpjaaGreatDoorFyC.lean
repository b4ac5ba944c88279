/- The document: literals, read, the other case: walked. -/
import Derived.Test.YtebddgdkndmpjaaGreatDoorFyA
import Derived.Deep.CutBlock
import Derived.Deep.RegionLawGrows
import Derived.Deep.Cut
import Derived.Deep.CutRange
import Derived.WalkKit
import Derived.WalkLawsBesides
import Derived.WalkSpells
import Derived.Deep.QuietTactic
import Derived.BigRegion
import Derived.BigQuiet
import Derived.Lib.Hide
import Derived.Outline
import Derived.Deep.AppendLies
import Derived.Deep.RegionLaw
import Derived.Deep.RegionWith
import Derived.Deep.RegionHeld3
import Derived.Deep.LoopGhost
import Derived.Deep.DeepFit
import Derived.Laws.ResultCell
import Derived.Laws.RangeAny
import Derived.Deep.MidRow
import Derived.StillTailTactics
import Derived.OpenShut
namespace Go.Proofs.YtebddgdkndmpjaaGreatDoor
set_option linter.unusedVariables false
open Go.RowKit Go

set_option maxRecDepth 100000 in
set_option maxHeartbeats 40000000 in
theorem rread_34b (g c p : Nat) (rs : List Int) (w : World) (hl : rs.length ≤ 1000) (hv : ∀ r, r ∈ rs → signR r = true) (hp : p ≤ rs.length) (h : Ls w g c rs) (h60 : ¬ peekOf rs p = 60) (h95 : ¬ peekOf rs p = 95) (h34 : peekOf rs p = 34) (hq : ¬ ((quotR rs p).1 = none ∨ (peekOf rs (quotR rs p).2 = 94 ∧ peekOf rs ((quotR rs p).2 + 1) = 94))) :
    Calls Tryz.prog 12 #[.slice (some ⟨g, 0, none⟩) rs.length c, .int .i64 (p : Int)] w (ReadPost (docE rs p) w) := by
  have HST := Lib.hid (fun q ch w1 h0 h1 hq h2 => stands_any g c q ch rs w1 h0 h1 hq h2)
  have HS := Lib.hid h
  have HIR := Lib.hid (fun w1 h1 => riri2_any g c p rs w1 hl hv hp h1)
  have hf0 : Fr (fun _ => False) w ((w.alloc (.cells #[.int .i64 0, .string ⟨#[]⟩, .string ⟨#[]⟩, .string ⟨#[]⟩] 52)).alloc (.cells #[.int .i64 0, .string ⟨#[]⟩, .string ⟨#[]⟩, .string ⟨#[]⟩] 52)) := ((Fr.refl _ _).alloc _).alloc _
  have S1 := Lib.hid (fun ch h0 h1 => stands_any g c p ch rs _ h0 h1 (by omega) (h.frF hf0))
  have hb1 := (Blk.new w 52 #[.int .i64 0, .string ⟨#[]⟩, .string ⟨#[]⟩, .string ⟨#[]⟩]).alloc (.cells #[.int .i64 0, .string ⟨#[]⟩, .string ⟨#[]⟩, .string ⟨#[]⟩] 52)
  have hb2 := Blk.new (w.alloc (.cells #[.int .i64 0, .string ⟨#[]⟩, .string ⟨#[]⟩, .string ⟨#[]⟩] 52)) 52 #[.int .i64 0, .string ⟨#[]⟩, .string ⟨#[]⟩, .string ⟨#[]⟩]
  rw [show (w.alloc (.cells #[.int .i64 0, .string ⟨#[]⟩, .string ⟨#[]⟩, .string ⟨#[]⟩] 52)).heap.size = w.heap.size + 1 by simp] at hb2
  have HB1 := Lib.hid hb1
  have HB2 := Lib.hid hb2
  have HF0 := Lib.hid hf0
  have HGD := Lib.hid (fun (x : DT) w1 h1 h2 h3 h4 h5 => rgood_any x w1 h1 h2 h3 h4 h5)
  have HFI := Lib.hid (iriR_fits rs hv p hp)
  have HS0 := Lib.hid (h.frF hf0)
  clear h hf0 hb1 hb2
  obtain ⟨res, hres⟩ : ∃ x, x = docE rs p := ⟨_, rfl⟩
  rw [← hres]
  unfold docE docR at hres
  have HF0B := Lib.hid (HF0.out.mono (T := fun j => w.heap.size ≤ j) (fun _ _ h => h.elim))
  rw [if_neg h60] at hres
  have S60 := Lib.hid (S1.out 60 (by decide) (by decide))
  rw [decide_eq_false h60] at S60
  have S95 := Lib.hid (S1.out 95 (by decide) (by decide))
  have S34 := Lib.hid (S1.out 34 (by decide) (by decide))
  rw [if_neg h95] at hres
  rw [decide_eq_false h95] at S95
  rw [if_pos h34] at hres
  rw [h34] at S34
  have hqf := quotR_fits rs hv p hp
  have HQ := Lib.hid (fun w1 h1 => rquoted_any g c p rs w1 hl hv hp h1)
  generalize quotR rs p = qr at *
  obtain ⟨qo, qp⟩ := qr
  have HQQ := Lib.hid hq
  clear hq
  have hqp := hqf.2
  dsimp only at hqp
  unfold RQPost at HQ
  dsimp only at HQ
  have hol : (outOf qo).length ≤ rs.length := by
    cases qo with
    | none => exact Nat.zero_le _
    | some l => have h1 := (hqf.1 l rfl).1; have h2 : ([] : List Int).length = 0 := rfl; show l.length ≤ _; omega
  have hos : ∀ x, x ∈ outOf qo → signR x = true := by
    cases qo with
    | none => exact fun x hx => (by cases hx)
    | some l => exact (hqf.1 l rfl).2
  have HXT := Lib.hid (fun B A1 c1 w1 h1 => rtext_any B (outOf qo).length c1 A1 (outOf qo) w1 rfl (by omega) hos h1)
  have hsz : (strL (outOf qo)).size ≤ 4096 := by have := strL_size (outOf qo); omega
  obtain ⟨str, hstr⟩ : ∃ x, x = strL (outOf qo) := ⟨_, rfl⟩
  rw [← hstr] at HXT hsz
  have HSTR := Lib.hid hstr
  have HRES := Lib.hid hres
  have HSZ := Lib.hid hsz
  have HQP := Lib.hid hqp
  clear hres hstr hos hol hsz hqf hqp
  go_enter Tryz.func12, Tryz.ntmps12
  go_wp2_with fail
  refine S60.out.mono ?_
  rintro e w1 ⟨rfl, rfl⟩
  generalize ((w.alloc (.cells #[.int .i64 0, .string ⟨#[]⟩, .string ⟨#[]⟩, .string ⟨#[]⟩] 52)).alloc (.cells #[.int .i64 0, .string ⟨#[]⟩, .string ⟨#[]⟩, .string ⟨#[]⟩] 52)) = w0 at *
  go_wp2_with fail
  refine S95.out.mono ?_
  rintro e w1 ⟨rfl, rfl⟩
  go_wp2_with fail
  refine S34.out.mono ?_
  rintro e w1 ⟨rfl, rfl⟩
  have HX := Lib.hid (HQ.out w0 HS0.out)
  generalize hon : (outOf qo).length = on at *
  go_wp2_with fail
  refine HX.out.mono ?_
  rintro e w2 ⟨⟨QA, qc, rfl, hqrow⟩, hf2⟩
  have HT2 := Lib.hid (HB2.out.fr hf2 (fun h => h))
  have HR2 := Lib.hid (HB1.out.fr hf2 (fun h => h))
  have HF2 := Lib.hid (HF0B.out.trans hf2 (fun _ _ h => h.elim))
  have HS2 := Lib.hid (HS0.out.frF hf2)
  have HX2 := Lib.hid (HXT.out _ QA qc w2 hqrow)
  clear hf2 hqrow
  go_upto_region 13 with (fail)
  go_cut [] from 56 to 58 (fun wx => R34 w g c rs str wx)
  case first =>
    go_wp2_with fail
    refine HX2.out.mono ?_
    rintro e w3 ⟨rfl, hf3⟩
    have HT3 := Lib.hid (HT2.out.fr hf3 (fun h => h))
    have HR3 := Lib.hid (HR2.out.fr hf3 (fun h => h))
    have HF3 := Lib.hid (HF2.out.trans hf3 (fun _ _ h => h.elim))
    have HS3 := Lib.hid (HS2.out.frF hf3)
    clear hf3
    have HTHt := Lib.hid (Blk.there (cs := zero52) HT3.out (n := 4) rfl)
    have hst4 := Blk.setAll (vs := [.int .i64 2, .string str, .string xString, .string ⟨#[]⟩]) (old := zero52) HT3.out rfl
    have hlt3 := HT3.out.lt
    have HT4 := Lib.hid hst4.1
    have HR4 := Lib.hid (HR3.out.fr hst4.2 (fun e => by omega))
    have HF4 := Lib.hid (HF3.out.trans hst4.2 (fun j hj e => by omega))
    have HS4 := Lib.hid (show Ls _ g c rs from ownsRow_fr HS3.out hst4.2 (fun j hj e => own_blk_ne HS3.out HT3.out (by decide) (by rw [hj, e])))
    clear hst4
    go_wp2_with (refine wpList_store_mid rfl 52 _ _ rfl (w.heap.size + 1) 0 #[.int .i64 2, .string str, .string xString, .string ⟨#[]⟩] rfl rfl HTHt.out inf52 (one52 2 str xString ⟨#[]⟩) ?_)
    go_meet
    exact ⟨HT4.out, HR4.out, HF4.out, HS4.out⟩
  case rest =>
    obtain ⟨hT4, hR4, hF4, hS4⟩ := hcut
    have HT4 := Lib.hid (show Blk wc (w.heap.size + 1) 52 ([.int .i64 2, .string str, .string xString, .string ⟨#[]⟩] : List Value).toArray from hT4)
    have HR4 := Lib.hid (show Blk wc w.heap.size 52 zero52.toArray from hR4)
    have HF4 := Lib.hid hF4
    have HS4 := Lib.hid hS4
    clear hT4 hR4 hF4 hS4
    cases qo with
    | none =>
      exact absurd (.inl rfl) HQQ.out
    | some l =>
      have hr0 := HRES.out
      dsimp only at hr0
      have hse : strL l = str := HSTR.out.symm
      rw [hse] at hr0
      clear hse
      have hqp := HQP.out
      have HS94 := Lib.hid (HST.out qp 94 _ (by decide) (by decide) (by omega) HS4.out)
      have HS95b := Lib.hid (HST.out (qp + 1) 94 _ (by decide) (by decide) (by omega) HS4.out)
      have HS64 := Lib.hid (HST.out qp 64 _ (by decide) (by decide) (by omega) HS4.out)
      clear hqp
      by_cases h94 : peekOf rs qp = 94
      · skip
        have h94v := h94
        rw [h94] at HS94 HS64
        have hql := peek_lt (rs := rs) (p := qp) (by omega)
        by_cases h95b : peekOf rs (qp + 1) = 94
        · exact absurd (.inr ⟨h94v, h95b⟩) HQQ.out
        · skip
          have htl : tailR rs qp = (xString, ⟨#[]⟩, qp, true) := by unfold tailR; rw [if_neg (fun h => h95b h.2), if_neg (by omega)]
          rw [htl] at hr0
          dsimp only at hr0
          rw [if_pos rfl] at hr0
          dsimp only at hr0
          have HR0 := Lib.hid hr0
          clear hr0 htl
          rw [decide_eq_false h95b] at HS95b
          go_wp2_with fail
          refine HS94.out.mono ?_
          rintro e w5 ⟨rfl, rfl⟩
          go_wp2_with fail
          refine HS95b.out.mono ?_
          rintro e w5 ⟨rfl, rfl⟩
          go_wp2_with fail
          refine HS64.out.mono ?_
          rintro e w5 ⟨rfl, rfl⟩
          have hr := HR0.out
          have HTZ := Lib.hid (show Blk (wc) (w.heap.size + 1) 52 ([.int .i64 2, .string str, .string xString, .string ⟨#[]⟩] : List Value).toArray from HT4.out)
          have HRG := Lib.hid (blkRange (cs := [.int .i64 2, .string str, .string xString, .string ⟨#[]⟩]) HTZ.out)
          have HGX := Lib.hid (HGD.out ⟨2, str, xString, ⟨#[]⟩⟩ (wc) (by show (0 : Int) ≤ 2; decide) (by show (2 : Int) ≤ 2; decide) HSZ.out xString_size size0)
          generalize rGood ⟨2, str, xString, ⟨#[]⟩⟩ = gb at *
          have HRS := Lib.hid hr
          clear hr
          go_wp2_with (refine wpList_load_mid rfl 52 _ rfl (w.heap.size + 1) 0 rfl _ _ HRG.out Tryz.underlying52 rfl inf52 ?_)
          refine HGX.out.mono ?_
          rintro e w9 ⟨rfl, hf9⟩
          have HT9 := Lib.hid (HTZ.out.fr hf9 (fun h => h))
          have HR9 := Lib.hid (HR4.out.fr hf9 (fun h => h))
          have HF9 := Lib.hid (HF4.out.trans hf9 (fun _ _ h => h.elim))
          clear hf9
          have hl1 := HR9.out.lt
          have HTH := Lib.hid (Blk.there (cs := zero52) HR9.out (n := 4) rfl)
          cases gb with
          | false =>
            have hr := HRS.out
            rw [if_neg Bool.false_ne_true] at hr
            subst hr
            have hst := Blk.setAll (vs := zero52) (old := zero52) HR9.out rfl
            have HST := Lib.hid hst.1
            have HFF := Lib.hid ((HF9.out.trans hst.2 (fun j hj e => by omega)).shut (Nat.le_refl _))
            unfold zero52 at HST HFF
            clear hst
            go_wp2_with (refine wpList_store_mid rfl 52 _ _ rfl _ _ _ rfl rfl HTH.out inf52 (one52 _ _ _ _) ?_)
            exact bodyPost_ret (v := .tuple #[.agg #[.int .i64 0, .string ⟨#[]⟩, .string ⟨#[]⟩, .string ⟨#[]⟩], .int .i64 (p : Int), .int .i64 3]) (results_e3 rfl _ _ w.heap.size 52 _ (0, 0) _ rfl HST.out Tryz.underlying52 rfl (by kernel_rfl) _ _ rfl rfl) rfl ⟨⟨_, _, _, _, rfl⟩, HFF.out⟩
          | true =>
            have hr := HRS.out
            rw [if_pos rfl] at hr
            subst hr
            have HRG9 := Lib.hid (blkRange (cs := [.int .i64 2, .string str, .string xString, .string ⟨#[]⟩]) HT9.out)
            have hst := Blk.setAll (vs := [.int .i64 2, .string str, .string xString, .string ⟨#[]⟩]) (old := zero52) HR9.out rfl
            have HST := Lib.hid hst.1
            have HFF := Lib.hid ((HF9.out.trans hst.2 (fun j hj e => by omega)).shut (Nat.le_refl _))
            clear hst
            go_wp2_with (first | refine wpList_load_mid rfl 52 _ rfl (w.heap.size + 1) 0 rfl _ _ HRG9.out Tryz.underlying52 rfl inf52 ?_ | refine wpList_store_mid rfl 52 _ _ rfl _ _ _ rfl rfl HTH.out inf52 (one52 _ _ _ _) ?_)
            exact bodyPost_ret (v := .tuple #[.agg #[.int .i64 2, .string str, .string xString, .string ⟨#[]⟩], .int .i64 (qp : Int), .int .i64 0]) (results_e3 rfl _ _ w.heap.size 52 _ (0, 0) _ rfl HST.out Tryz.underlying52 rfl (by kernel_rfl) _ _ rfl rfl) rfl ⟨⟨_, _, _, _, rfl⟩, HFF.out⟩
      · rw [decide_eq_false h94] at HS94
        by_cases h64 : peekOf rs qp = 64
        · have htl : tailR rs qp = (xLang, strL (part rs (qp + 1) (wordE rs [45] (qp + 1))), wordE rs [45] (qp + 1), true) := by unfold tailR; rw [if_neg (fun h => h94 h.1), if_pos h64]
          rw [htl] at hr0
          dsimp only at hr0
          rw [if_pos rfl] at hr0
          dsimp only at hr0
          rw [h64] at HS64
          have hql := peek_lt (rs := rs) (p := qp) (by omega)
          have HWD := Lib.hid (fun w1 h1 => rword_any g c (qp + 1) false rs w1 hl hv hql h1)
          rw [if_neg Bool.false_ne_true] at HWD
          have hss := strL_size (part rs (qp + 1) (wordE rs [45] (qp + 1)))
          have hpz := part_len rs (qp + 1) (wordE rs [45] (qp + 1))
          clear htl
          generalize wordE rs [45] (qp + 1) = q2 at *
          generalize strL (part rs (qp + 1) q2) = lang at *
          have HR0 := Lib.hid hr0
          clear hr0
          go_wp2_with fail
          refine HS94.out.mono ?_
          rintro e w5 ⟨rfl, rfl⟩
          go_wp2_with fail
          refine HS64.out.mono ?_
          rintro e w5 ⟨rfl, rfl⟩
          have cTc : (wc).cell? ⟨w.heap.size + 1, 2, none⟩ = some (.string xString) := HT4.out.cell 2
          have fTc := HT4.out.frozen 2
          have lTc := HT4.out.lt
          have hxc : Fr (fun j => j = w.heap.size + 1) (wc) ((wc).setCell ⟨w.heap.size + 1, 2, none⟩ (.string xLang)) := (Fr.refl (fun j => j = w.heap.size + 1) (wc)).setCell ⟨w.heap.size + 1, 2, none⟩ (fun _ => rfl) _
          have HTc := Lib.hid (HT4.out.set_ 2 (.string xLang))
          have HRc := Lib.hid (HR4.out.fr hxc (fun e => by omega))
          have HFc := Lib.hid (HF4.out.trans hxc (fun j hj e => by omega))
          have HSc := Lib.hid (show Ls _ g c rs from ownsRow_fr HS4.out hxc (fun j hj e => own_blk_ne HS4.out HT4.out (by decide) (by rw [hj, e])))
          clear hxc
          have HX7 := Lib.hid (HWD.out _ HSc.out)
          go_wp2_with fail
          refine HX7.out.mono ?_
          rintro e w6 ⟨rfl, hf6⟩
          have HT6 := Lib.hid (HTc.out.fr hf6 (fun h => h))
          have HR6 := Lib.hid (HRc.out.fr hf6 (fun h => h))
          have HF6 := Lib.hid (HFc.out.trans hf6 (fun _ _ h => h.elim))
          have HS6 := Lib.hid (HSc.out.frF hf6)
          clear hf6
          have cTd : (w6).cell? ⟨w.heap.size + 1, 3, none⟩ = some (.string ⟨#[]⟩) := HT6.out.cell 3
          have fTd := HT6.out.frozen 3
          have lTd := HT6.out.lt
          have hxd : Fr (fun j => j = w.heap.size + 1) (w6) ((w6).setCell ⟨w.heap.size + 1, 3, none⟩ (.string lang)) := (Fr.refl (fun j => j = w.heap.size + 1) (w6)).setCell ⟨w.heap.size + 1, 3, none⟩ (fun _ => rfl) _
          have HTd := Lib.hid (HT6.out.set_ 3 (.string lang))
          have HRd := Lib.hid (HR6.out.fr hxd (fun e => by omega))
          have HFd := Lib.hid (HF6.out.trans hxd (fun j hj e => by omega))
          have HSd := Lib.hid (show Ls _ g c rs from ownsRow_fr HS6.out hxd (fun j hj e => own_blk_ne HS6.out HT6.out (by decide) (by rw [hj, e])))
          clear hxd
          have hr := HR0.out
          have HTZ := Lib.hid (show Blk ((w6).setCell ⟨w.heap.size + 1, 3, none⟩ (.string lang)) (w.heap.size + 1) 52 ([.int .i64 2, .string str, .string xLang, .string lang] : List Value).toArray from HTd.out)
          have HRG := Lib.hid (blkRange (cs := [.int .i64 2, .string str, .string xLang, .string lang]) HTZ.out)
          have HGX := Lib.hid (HGD.out ⟨2, str, xLang, lang⟩ ((w6).setCell ⟨w.heap.size + 1, 3, none⟩ (.string lang)) (by show (0 : Int) ≤ 2; decide) (by show (2 : Int) ≤ 2; decide) HSZ.out xLang_size (by show lang.size ≤ 4096; omega))
          generalize rGood ⟨2, str, xLang, lang⟩ = gb at *
          have HRS := Lib.hid hr
          clear hr
          go_wp2_with (refine wpList_load_mid rfl 52 _ rfl (w.heap.size + 1) 0 rfl _ _ HRG.out Tryz.underlying52 rfl inf52 ?_)
          refine HGX.out.mono ?_
          rintro e w9 ⟨rfl, hf9⟩
          have HT9 := Lib.hid (HTZ.out.fr hf9 (fun h => h))
          have HR9 := Lib.hid (HRd.out.fr hf9 (fun h => h))
          have HF9 := Lib.hid (HFd.out.trans hf9 (fun _ _ h => h.elim))
          clear hf9
          have hl1 := HR9.out.lt
          have HTH := Lib.hid (Blk.there (cs := zero52) HR9.out (n := 4) rfl)
          cases gb with
          | false =>
            have hr := HRS.out
            rw [if_neg Bool.false_ne_true] at hr
            subst hr
            have hst := Blk.setAll (vs := zero52) (old := zero52) HR9.out rfl
            have HST := Lib.hid hst.1
            have HFF := Lib.hid ((HF9.out.trans hst.2 (fun j hj e => by omega)).shut (Nat.le_refl _))
            unfold zero52 at HST HFF
            clear hst
            go_wp2_with (refine wpList_store_mid rfl 52 _ _ rfl _ _ _ rfl rfl HTH.out inf52 (one52 _ _ _ _) ?_)
            exact bodyPost_ret (v := .tuple #[.agg #[.int .i64 0, .string ⟨#[]⟩, .string ⟨#[]⟩, .string ⟨#[]⟩], .int .i64 (p : Int), .int .i64 3]) (results_e3 rfl _ _ w.heap.size 52 _ (0, 0) _ rfl HST.out Tryz.underlying52 rfl (by kernel_rfl) _ _ rfl rfl) rfl ⟨⟨_, _, _, _, rfl⟩, HFF.out⟩
          | true =>
            have hr := HRS.out
            rw [if_pos rfl] at hr
            subst hr
            have HRG9 := Lib.hid (blkRange (cs := [.int .i64 2, .string str, .string xLang, .string lang]) HT9.out)
            have hst := Blk.setAll (vs := [.int .i64 2, .string str, .string xLang, .string lang]) (old := zero52) HR9.out rfl
            have HST := Lib.hid hst.1
            have HFF := Lib.hid ((HF9.out.trans hst.2 (fun j hj e => by omega)).shut (Nat.le_refl _))
            clear hst
            go_wp2_with (first | refine wpList_load_mid rfl 52 _ rfl (w.heap.size + 1) 0 rfl _ _ HRG9.out Tryz.underlying52 rfl inf52 ?_ | refine wpList_store_mid rfl 52 _ _ rfl _ _ _ rfl rfl HTH.out inf52 (one52 _ _ _ _) ?_)
            exact bodyPost_ret (v := .tuple #[.agg #[.int .i64 2, .string str, .string xLang, .string lang], .int .i64 (q2 : Int), .int .i64 0]) (results_e3 rfl _ _ w.heap.size 52 _ (0, 0) _ rfl HST.out Tryz.underlying52 rfl (by kernel_rfl) _ _ rfl rfl) rfl ⟨⟨_, _, _, _, rfl⟩, HFF.out⟩
        · rw [decide_eq_false h64] at HS64
          have htl : tailR rs qp = (xString, ⟨#[]⟩, qp, true) := by unfold tailR; rw [if_neg (fun h => h94 h.1), if_neg h64]
          rw [htl] at hr0
          dsimp only at hr0
          rw [if_pos rfl] at hr0
          dsimp only at hr0
          have HR0 := Lib.hid hr0
          clear hr0 htl
          go_wp2_with fail
          refine HS94.out.mono ?_
          rintro e w5 ⟨rfl, rfl⟩
          go_wp2_with fail
          refine HS64.out.mono ?_
          rintro e w5 ⟨rfl, rfl⟩
          have hr := HR0.out
          have HTZ := Lib.hid (show Blk (wc) (w.heap.size + 1) 52 ([.int .i64 2, .string str, .string xString, .string ⟨#[]⟩] : List Value).toArray from HT4.out)
          have HRG := Lib.hid (blkRange (cs := [.int .i64 2, .string str, .string xString, .string ⟨#[]⟩]) HTZ.out)
          have HGX := Lib.hid (HGD.out ⟨2, str, xString, ⟨#[]⟩⟩ (wc) (by show (0 : Int) ≤ 2; decide) (by show (2 : Int) ≤ 2; decide) HSZ.out xString_size size0)
          generalize rGood ⟨2, str, xString, ⟨#[]⟩⟩ = gb at *
          have HRS := Lib.hid hr
          clear hr
          go_wp2_with (refine wpList_load_mid rfl 52 _ rfl (w.heap.size + 1) 0 rfl _ _ HRG.out Tryz.underlying52 rfl inf52 ?_)
          refine HGX.out.mono ?_
          rintro e w9 ⟨rfl, hf9⟩
          have HT9 := Lib.hid (HTZ.out.fr hf9 (fun h => h))
          have HR9 := Lib.hid (HR4.out.fr hf9 (fun h => h))
          have HF9 := Lib.hid (HF4.out.trans hf9 (fun _ _ h => h.elim))
          clear hf9
          have hl1 := HR9.out.lt
          have HTH := Lib.hid (Blk.there (cs := zero52) HR9.out (n := 4) rfl)
          cases gb with
          | false =>
            have hr := HRS.out
            rw [if_neg Bool.false_ne_true] at hr
            subst hr
            have hst := Blk.setAll (vs := zero52) (old := zero52) HR9.out rfl
            have HST := Lib.hid hst.1
            have HFF := Lib.hid ((HF9.out.trans hst.2 (fun j hj e => by omega)).shut (Nat.le_refl _))
            unfold zero52 at HST HFF
            clear hst
            go_wp2_with (refine wpList_store_mid rfl 52 _ _ rfl _ _ _ rfl rfl HTH.out inf52 (one52 _ _ _ _) ?_)
            exact bodyPost_ret (v := .tuple #[.agg #[.int .i64 0, .string ⟨#[]⟩, .string ⟨#[]⟩, .string ⟨#[]⟩], .int .i64 (p : Int), .int .i64 3]) (results_e3 rfl _ _ w.heap.size 52 _ (0, 0) _ rfl HST.out Tryz.underlying52 rfl (by kernel_rfl) _ _ rfl rfl) rfl ⟨⟨_, _, _, _, rfl⟩, HFF.out⟩
          | true =>
            have hr := HRS.out
            rw [if_pos rfl] at hr
            subst hr
            have HRG9 := Lib.hid (blkRange (cs := [.int .i64 2, .string str, .string xString, .string ⟨#[]⟩]) HT9.out)
            have hst := Blk.setAll (vs := [.int .i64 2, .string str, .string xString, .string ⟨#[]⟩]) (old := zero52) HR9.out rfl
            have HST := Lib.hid hst.1
            have HFF := Lib.hid ((HF9.out.trans hst.2 (fun j hj e => by omega)).shut (Nat.le_refl _))
            clear hst
            go_wp2_with (first | refine wpList_load_mid rfl 52 _ rfl (w.heap.size + 1) 0 rfl _ _ HRG9.out Tryz.underlying52 rfl inf52 ?_ | refine wpList_store_mid rfl 52 _ _ rfl _ _ _ rfl rfl HTH.out inf52 (one52 _ _ _ _) ?_)
            exact bodyPost_ret (v := .tuple #[.agg #[.int .i64 2, .string str, .string xString, .string ⟨#[]⟩], .int .i64 (qp : Int), .int .i64 0]) (results_e3 rfl _ _ w.heap.size 52 _ (0, 0) _ rfl HST.out Tryz.underlying52 rfl (by kernel_rfl) _ _ rfl rfl) rfl ⟨⟨_, _, _, _, rfl⟩, HFF.out⟩

end Go.Proofs.YtebddgdkndmpjaaGreatDoor
