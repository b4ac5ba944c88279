/- The fold SUM; is an integer great: walked. -/
import Derived.Test.YtflhmieeidnpgaaGreatDoorHp
import Derived.Deep.CutBlock
import Derived.Deep.RegionLawGrows
import Derived.Deep.Cut
import Derived.Deep.CutRange
import Derived.WalkKit
import Derived.WalkLawsBesides
import Derived.WalkSpells
import Derived.Deep.QuietTactic
import Derived.BigRegion
import Derived.BigQuiet
import Derived.Lib.Hide
import Derived.Outline
import Derived.Deep.AppendLies
import Derived.Deep.RegionLaw
import Derived.Deep.RegionWith
import Derived.Deep.RegionHeld3
import Derived.Deep.LoopGhost
import Derived.Deep.DeepFit
import Derived.Laws.ResultCell
import Derived.Laws.RangeAny
import Derived.Deep.MidRow
import Derived.StillTailTactics
import Derived.OpenShut
namespace Go.Proofs.YtflhmieeidnpgaaGreatDoor
set_option linter.unusedVariables false
open Go.RowKit Go

theorem as_n (w : World) : (Instr.typeAssert .nilIface 37 59 true).run Tryz.prog w = .ok (.tuple #[.agg #[.string ⟨#[]⟩, .string ⟨#[]⟩, .string ⟨#[]⟩], .bool false]) w := by kernel_rfl
attribute [local go_sem] as_n
set_option maxRecDepth 100000 in
set_option maxHeartbeats 4000000 in
theorem of_nil (k : ByteArray) (w : World) : Calls Tryz.prog 48 #[.nilIface, .string k] w fun e w' => e = .returned (.tuple #[.agg #[.string ⟨#[]⟩, .string ⟨#[]⟩, .string ⟨#[]⟩], .bool false]) ∧ Fr (fun _ => False) w w' := by
  go_enter Tryz.func48, Tryz.ntmps48
  go_wp2_with fail
  go_region
  all_goals (go_wp2_with fail)
  all_goals (exact bodyPost_ret (v := .tuple #[.agg #[.string ⟨#[]⟩, .string ⟨#[]⟩, .string ⟨#[]⟩], .bool false]) (results_c2 rfl _ _ w.heap.size 59 _ (0, 0) _ rfl ((Blk.new w 59 #[.string ⟨#[]⟩, .string ⟨#[]⟩, .string ⟨#[]⟩]).alloc (.cells #[.string ⟨#[]⟩, .string ⟨#[]⟩, .string ⟨#[]⟩] 59)).drew Tryz.underlying59 rfl (by kernel_rfl) _ rfl) rfl ⟨rfl, (((Fr.refl _ _).alloc _).alloc _).drew⟩)
set_option maxRecDepth 100000 in
set_option maxHeartbeats 4000000 in
theorem asInt_nil (w : World) : Calls Tryz.prog 14 #[.nilIface] w fun e w' => e = .returned (.tuple #[.int .i64 0, .int .i64 10]) ∧ Fr (fun _ => False) w w' := by
  have HO := Lib.hid (fun k w => of_nil k w)
  go_enter Tryz.func14, Tryz.ntmps14
  go_wp2_with fail
  refine (HO.out _ _).mono ?_
  rintro e w1 ⟨rfl, hf1⟩
  have HF1 := Lib.hid hf1
  clear hf1
  go_wp2_with fail
  go_ret2
  exact ⟨rfl, HF1.out.alloc _⟩

theorem sumPost_mono {l : List Tm} {w w0 w' : World} {e : Ending} (hf : Fr (fun _ => False) w0 w) (h : SumPost l w e w') : SumPost l w0 e w' := ⟨hf.trans' h.1, h.2⟩
set_option maxRecDepth 100000 in
set_option maxHeartbeats 4000000 in
theorem foldSum_any (vg vc B1 B2 B b r : Nat) (vt vr : Value) (vals : List Value) (ts : List Tm) (room : Int) (rows : List (List Int)) (w : World) (hn : rows.length ≤ 100) (h3 : ∀ r, r ∈ rows → r.length = 3) (hl : ts.length ≤ 100000) (hsh : ∀ t, t ∈ ts → t.short)
    (hs : w.ownsRow B1 9 1 (.slice (some ⟨vg, 0, none⟩) 3 vc) 3 (abc.map .string)) (hr : RowsAt w B2 vr vals rows) (hd : IsDict w B b r vt ts room) (hg : Glob w) :
    Calls Tryz.prog 8 #[.string ⟨#[83, 85, 77]⟩, .string ⟨#[98]⟩, .agg #[.slice (some ⟨vg, 0, none⟩) 3 vc, vr], .pointer (some ⟨b, 0, none⟩)] w (SumPost (termsTo ts 1 true rows rows.length) w) := by
  have HT := Lib.hid (fun wy (hf : Fr (fun _ => False) w wy) => terms_any vg vc B1 B2 B b r 1 ⟨#[98]⟩ true vt vr vals ts room rows wy var_b (by omega) h3 hl (ownsRow_fr hs hf (fun _ _ h => h)) (hr.frF hf) (hd.frF hf))
  obtain ⟨A0, c0, hvt⟩ := row_shape hr.own
  subst hvt
  have HG := Lib.hid hg
  have HLE := Lib.hid (termsTo_le ts 1 true rows rows.length)
  have HSH := Lib.hid hsh
  clear hs hr hd hg hsh h3
  generalize termsTo ts 1 true rows rows.length = l at *
  go_enter Tryz.func8, Tryz.ntmps8
  go_wp2_with fail
  refine (HT.out _ ((Fr.refl _ _).alloc _)).mono ?_
  rintro e w1 ⟨v, rfl, hrow, hf1⟩
  have F1 : Fr (fun _ => False) w w1 := ((Fr.refl _ w).alloc _).trans' hf1
  have HF1 := Lib.hid F1
  have HS := Lib.hid (sum_any _ v l w1 (by have := HLE.out.1; omega) (fun t ht => HSH.out t (HLE.out.2 t ht)) hrow (HG.out.fr F1))
  obtain ⟨Al, cl, hvl⟩ := row_shape hrow
  subst hvl
  clear hf1 F1 hrow
  go_wp2_with fail
  refine HS.out.mono ?_
  rintro e w2 ⟨hf2, ⟨s, rfl, hs⟩ | ⟨rfl, hs⟩⟩
  · have HF2 := Lib.hid (HF1.out.trans' hf2)
    have HSI := Lib.hid hs
    unfold intTm Tm.val
    have HIT := Lib.hid (show (intTm s).val = .iface 59 (.agg #[.string ⟨(Lib.itoa s).toArray⟩, .string xInt, .string ⟨#[]⟩]) from rfl)
    generalize (⟨(Lib.itoa s).toArray⟩ : ByteArray) = is at *
    generalize xInt = xi at *
    clear hf2 hs
    go_wp2_with fail
    go_ret2
    exact ⟨HF2.out, .inl ⟨s, by rw [HIT.out]; rfl, HSI.out⟩⟩
  · have HF2 := Lib.hid (HF1.out.trans' hf2)
    have HSI := Lib.hid hs
    clear hf2 hs
    go_wp2_with fail
    go_ret2
    exact ⟨HF2.out, .inr ⟨rfl, HSI.out⟩⟩

set_option maxRecDepth 100000 in
set_option maxHeartbeats 4000000 in
theorem big_any (vg vc B1 B2 B b r : Nat) (vt vr : Value) (vals : List Value) (ts : List Tm) (room : Int) (rows : List (List Int)) (w : World) (hn : rows.length ≤ 100) (h3 : ∀ r, r ∈ rows → r.length = 3) (hl : ts.length ≤ 100000) (hsh : ∀ t, t ∈ ts → t.short)
    (hs : w.ownsRow B1 9 1 (.slice (some ⟨vg, 0, none⟩) 3 vc) 3 (abc.map .string)) (hr : RowsAt w B2 vr vals rows) (hd : IsDict w B b r vt ts room) (hg : Glob w) :
    Calls Tryz.prog 17 #[.agg #[.slice (some ⟨vg, 0, none⟩) 3 vc, vr], .pointer (some ⟨b, 0, none⟩)] w (fun e w' => (∃ q : Bool, e = .returned (.bool q)) ∧ Fr (fun _ => False) w w') := by
  obtain ⟨A0, c0, hvt⟩ := row_shape hr.own
  subst hvt
  have HS := Lib.hid hs
  have HR := Lib.hid hr
  have HD := Lib.hid hd
  have HG := Lib.hid hg
  have HSH := Lib.hid hsh
  have H3 := Lib.hid h3
  have hb := Blk.new w 29 #[.slice (some ⟨vg, 0, none⟩) 3 vc, .slice A0 rows.length c0]
  have HB := Lib.hid hb
  have HL := Lib.hid hl
  clear hs hr hd hg hsh h3 hb hl
  generalize hrl : rows.length = n at *
  have HRL := Lib.hid hrl
  clear hrl
  go_enter Tryz.func17, Tryz.ntmps17
  go_wp2_with fail
  go_loopw [14] (fun iv wr => ∃ i : Nat, iv = .int .i64 (i : Int) ∧ i ≤ n ∧ Blk wr w.heap.size 29 #[.slice (some ⟨vg, 0, none⟩) 3 vc, .slice A0 n c0] ∧ Fr (fun _ => False) w wr) (fun iv _ => n - (intOf iv).toNat)
  case atStart => exact ⟨0, rfl, Nat.zero_le _, HB.out, (Fr.refl _ _).alloc _⟩
  case round =>
    obtain ⟨i, rfl, hi, hbl, hf⟩ := hrel
    have HBL := Lib.hid hbl
    have HF := Lib.hid hf
    by_cases hlt : i < n
    · have hlt' : decide (i < n) = true := by simpa using hlt
      have hRw := HR.out.frF hf
      have hro := hRw.own
      rw [HRL.out] at hro
      obtain ⟨ga, rfl, _, _, _⟩ := row_form hro (by omega)
      have h3i : (rows.getD i []).length = 3 := H3.out _ (getD_mem (by rw [HRL.out]; exact hlt))
      have ck : wr.cell? ⟨ga, i, none⟩ = some (vals.getD i undef) := by
        rw [World.ownsRow.cellAt hro i (by omega), List.getD_eq_getElem?_getD, List.getElem?_eq_getElem (by have := hRw.len; rw [HRL.out] at this; omega)]; rfl
      have hek := hRw.each i (by rw [HRL.out]; exact hlt)
      obtain ⟨rg, rc, hvk⟩ := row_pos hek (by rw [h3i]; omega)
      rw [hvk] at ck hek
      rw [h3i] at ck hek
      have HVA := Lib.hid (value_any vg vc B1 B2 1 n c0 (some ⟨ga, 0, none⟩) ⟨#[98]⟩ true (.slice (some ⟨rg, 0, none⟩) 3 rc) (rows.getD i []) wr var_b h3i (ownsRow_fr HS.out hf (fun _ _ h => h)) hek)
      have HTE := Lib.hid (fun wy hd => term_any B b r vt ts room (valN 1 true (rows.getD i [])) wy hd HL.out)
      have t0 : wr.cell? ⟨w.heap.size, 0, none⟩ = some (.slice (some ⟨vg, 0, none⟩) 3 vc) := hbl.cell 0
      have t1 : wr.cell? ⟨w.heap.size, 1, none⟩ = some (.slice (some ⟨ga, 0, none⟩) n c0) := hbl.cell 1
      clear hf hRw hro hek h3i hvk hbl
      generalize valN 1 true (rows.getD i []) = vn at *
      cases htn : termN ts vn with
      | none =>
        rw [htn] at HTE
        unfold termV termE at HTE
        dsimp only at HTE
        clear htn
        go_wp2_with fail
        refine HVA.out.mono ?_
        rintro e w1 ⟨rfl, hf1⟩
        have HF1 := Lib.hid hf1
        clear hf1
        go_wp2_with fail
        refine (HTE.out _ (HD.out.frF (HF.out.trans' HF1.out))).mono ?_
        rintro e w2 ⟨rfl, rfl⟩
        go_wp2_with fail
        go_roundw
        case rel => exact ⟨i + 1, by go_num, hlt, HBL.out.fr HF1.out (fun h => h), HF.out.trans' HF1.out⟩
        case measure => simp [intOf]; omega
      | some t =>
        rw [htn] at HTE
        unfold termV termE at HTE
        dsimp only at HTE
        have hmem : t ∈ ts := by
          unfold termN at htn
          split at htn
          · exact List.mem_of_getElem? htn
          · cases htn
        have HAI := Lib.hid (fun w hg => asInt_any t w (HSH.out t hmem) hg)
        obtain ⟨d, x, hx⟩ := t.shape
        rw [hx] at HTE HAI
        generalize asIntT t = ai at *
        obtain ⟨an, ae⟩ := ai
        dsimp only at HAI
        clear hx htn hmem
        by_cases he : ae = 0
        · subst he
          by_cases h1 : 1125899906842624 < an
          · go_wp2_with fail
            refine HVA.out.mono ?_
            rintro e w1 ⟨rfl, hf1⟩
            have HF1 := Lib.hid hf1
            clear hf1
            go_wp2_with fail
            refine (HTE.out _ (HD.out.frF (HF.out.trans' HF1.out))).mono ?_
            rintro e w2 ⟨rfl, rfl⟩
            go_wp2_with fail
            refine (HAI.out _ (HG.out.fr (HF.out.trans' HF1.out))).mono ?_
            rintro e w3 ⟨rfl, hf3⟩
            have HF3 := Lib.hid ((HF.out.trans' HF1.out).trans' hf3)
            clear hf3
            go_wp2_with fail
            go_ret
            exact ⟨⟨_, rfl⟩, HF3.out⟩
          · by_cases h2 : an < -1125899906842624
            · go_wp2_with fail
              refine HVA.out.mono ?_
              rintro e w1 ⟨rfl, hf1⟩
              have HF1 := Lib.hid hf1
              clear hf1
              go_wp2_with fail
              refine (HTE.out _ (HD.out.frF (HF.out.trans' HF1.out))).mono ?_
              rintro e w2 ⟨rfl, rfl⟩
              go_wp2_with fail
              refine (HAI.out _ (HG.out.fr (HF.out.trans' HF1.out))).mono ?_
              rintro e w3 ⟨rfl, hf3⟩
              have HF3 := Lib.hid ((HF.out.trans' HF1.out).trans' hf3)
              clear hf3
              go_wp2_with fail
              go_ret
              exact ⟨⟨_, rfl⟩, HF3.out⟩
            · go_wp2_with fail
              refine HVA.out.mono ?_
              rintro e w1 ⟨rfl, hf1⟩
              have HF1 := Lib.hid hf1
              clear hf1
              go_wp2_with fail
              refine (HTE.out _ (HD.out.frF (HF.out.trans' HF1.out))).mono ?_
              rintro e w2 ⟨rfl, rfl⟩
              go_wp2_with fail
              refine (HAI.out _ (HG.out.fr (HF.out.trans' HF1.out))).mono ?_
              rintro e w3 ⟨rfl, hf3⟩
              have HF3 := Lib.hid ((HF.out.trans' HF1.out).trans' hf3)
              have HB3 := Lib.hid ((HBL.out.fr HF1.out (fun h => h)).fr hf3 (fun h => h))
              clear hf3
              go_wp2_with fail
              go_roundw
              case rel => exact ⟨i + 1, by go_num, hlt, HB3.out, HF3.out⟩
              case measure => simp [intOf]; omega
        · have he' : (ae == 0) = false := by simp [he]
          go_wp2_with fail
          refine HVA.out.mono ?_
          rintro e w1 ⟨rfl, hf1⟩
          have HF1 := Lib.hid hf1
          clear hf1
          go_wp2_with fail
          refine (HTE.out _ (HD.out.frF (HF.out.trans' HF1.out))).mono ?_
          rintro e w2 ⟨rfl, rfl⟩
          go_wp2_with fail
          refine (HAI.out _ (HG.out.fr (HF.out.trans' HF1.out))).mono ?_
          rintro e w3 ⟨rfl, hf3⟩
          have HF3 := Lib.hid ((HF.out.trans' HF1.out).trans' hf3)
          have HB3 := Lib.hid ((HBL.out.fr HF1.out (fun h => h)).fr hf3 (fun h => h))
          clear hf3
          go_wp2_with fail
          go_roundw
          case rel => exact ⟨i + 1, by go_num, hlt, HB3.out, HF3.out⟩
          case measure => simp [intOf]; omega
    · have hlt' : decide (i < n) = false := by simpa using hlt
      go_wp2_with fail
      go_ret
      exact ⟨⟨_, rfl⟩, HF.out⟩

end Go.Proofs.YtflhmieeidnpgaaGreatDoor
