/- The document: IRIs: walked. -/
import Derived.Test.YtebddgdkndmpjaaGreatDoorFu
import Derived.Deep.CutBlock
import Derived.Deep.RegionLawGrows
import Derived.Deep.Cut
import Derived.Deep.CutRange
import Derived.WalkKit
import Derived.WalkLawsBesides
import Derived.WalkSpells
import Derived.Deep.QuietTactic
import Derived.BigRegion
import Derived.BigQuiet
import Derived.Lib.Hide
import Derived.Outline
import Derived.Deep.AppendLies
import Derived.Deep.RegionLaw
import Derived.Deep.RegionWith
import Derived.Deep.RegionHeld3
import Derived.Deep.LoopGhost
import Derived.Deep.DeepFit
import Derived.Laws.ResultCell
import Derived.Laws.RangeAny
import Derived.Deep.MidRow
import Derived.StillTailTactics
import Derived.OpenShut
namespace Go.Proofs.YtebddgdkndmpjaaGreatDoor
set_option linter.unusedVariables false
open Go.RowKit Go

theorem info3b : (Tryz.prog.info? 3).map (fun i => (i.zero, i.size, i.bytes)) = some (some (.int .i64 0), 1, 8) := by kernel_rfl

set_option maxRecDepth 100000 in
set_option maxHeartbeats 4000000 in
theorem riri2_any (g c p : Nat) (rs : List Int) (w : World) (hl : rs.length ≤ 1000) (hv : ∀ r, r ∈ rs → signR r = true) (hp : p ≤ rs.length) (h : Ls w g c rs) :
    Calls Tryz.prog 43 #[.slice (some ⟨g, 0, none⟩) rs.length c, .int .i64 (p : Int)] w fun e w' => e = .returned (.tuple #[.string (optS (iriR rs p).1), .int .i64 ((iriR rs p).2 : Int), .bool (iriR rs p).1.isSome]) ∧ Fr (fun _ => False) w w' := by
  obtain ⟨i3, hi3, hz0, hz1, hz2⟩ := info_parts info3b
  obtain ⟨res, hres⟩ : ∃ x, x = iriR rs p := ⟨_, rfl⟩
  rw [← hres]
  unfold iriR at hres
  have HST := Lib.hid (fun q ch w1 h0 h1 hq h2 => stands_any g c q ch rs w1 h0 h1 hq h2)
  have HH := Lib.hid (fun n w1 => rhex_any n w1)
  have HSI := Lib.hid (fun n w1 => rsign_any n w1)
  have HS := Lib.hid h
  have hcap := h.cap
  have HSG := Lib.hid (fun i hi => sign_peek hv (i := i) hi)
  have S0 := Lib.hid (stands_any g c p 60 rs w (by decide) (by decide) (by omega) h)
  clear h
  by_cases hp0 : peekOf rs p = 60
  · rw [if_pos hp0] at hres
    have HRES := Lib.hid hres
    have hplt := peek_lt (rs := rs) (p := p) (by omega)
    rw [hp0] at S0
    clear hres hp0
    go_enter Tryz.func43, Tryz.ntmps43
    go_wp2_with fail
    refine S0.out.mono ?_
    rintro e w1 ⟨rfl, rfl⟩
    go_wp2_with fail
    go_loopg [7, 8] (rs.length + 1) (fun gk a7 a8 wr => ∃ (i : Nat) (out : List Int), a8 = .int .i64 (i : Int) ∧ rs.length + 1 ≤ i + gk ∧ i ≤ rs.length ∧ out.length ≤ i ∧ iriT rs i out = res ∧ wr.ownsRow w.heap.size 3 1 a7 out.length (out.map (.int .i64)) ∧ (∀ x, x ∈ out → signR x = true) ∧ Fr (fun _ => False) w wr)
    case atStart => exact ⟨p + 1, [], rfl, by omega, by omega, Nat.zero_le _, HRES.out.symm, World.ownsRow_nil _ _ _ _, fun _ h => (by cases h), Fr.refl _ _⟩
    case round =>
      obtain ⟨i, out, rfl, hg, hi, hol, hir, hrow, hos, hf⟩ := hrel
      have HIR := Lib.hid hir
      have HF := Lib.hid hf
      have HROW := Lib.hid hrow
      have HOS := Lib.hid hos
      have hsz := hf.size
      have HSW := Lib.hid (HS.out.frF hf)
      have T0 := Lib.hid (fun q ch h0 h1 hq => HST.out q ch wr h0 h1 hq HSW.out)
      have TE := Lib.hid (T0.out i 62 (by decide) (by decide) (by omega))
      obtain ⟨A6, c6, hv6⟩ := row_shape hrow
      subst hv6
      clear hir hrow hos hf
      by_cases hil : i < rs.length
      · have c0 := HSW.out.cell hil
        by_cases h62 : peekOf rs i = 62
        · have hrr := (iriT_shut (rs := rs) (i := i) out h62).symm.trans HIR.out
          subst hrr
          rw [h62] at c0 TE
          have HX := Lib.hid (rtext_any w.heap.size out.length c6 A6 out wr rfl (by omega) HOS.out HROW.out)
          go_wp2_with fail
          refine TE.out.mono ?_
          rintro e w2 ⟨rfl, rfl⟩
          go_wp2_with fail
          refine HX.out.mono ?_
          rintro e w3 ⟨rfl, hf3⟩
          go_wp2_with fail
          go_ret3
          exact ⟨rfl, HF.out.trans' hf3⟩
        · by_cases h10 : peekOf rs i = 10
          · have hrr := (iriT_end (rs := rs) (i := i) out (fun h => h.2 h10)).symm.trans HIR.out
            subst hrr
            rw [h10] at c0 TE
            go_wp2_with fail
            refine TE.out.mono ?_
            rintro e w2 ⟨rfl, rfl⟩
            go_wp2_with fail
            go_ret3
            exact ⟨rfl, HF.out⟩
          · have hsg := HSG.out i hil
            by_cases h92 : peekOf rs i = 92
            · skip
              rw [h92] at c0
              have TU := Lib.hid (T0.out (i + 1) 117 (by decide) (by decide) (by omega))
              have TV := Lib.hid (T0.out (i + 1) 85 (by decide) (by decide) (by omega))
              by_cases hu : peekOf rs (i + 1) = 117
              · skip
                rw [hu] at TU TV
                have hpl := peek_lt (rs := rs) (p := i + 1) (by omega)
                have hrr := iriT_u (rs := rs) (i := i) out h92 hu
                rw [HIR.out] at hrr
                have HIRR := Lib.hid hrr
                clear hrr
                go_wp2_with fail
                refine TU.out.mono ?_
                rintro e w2 ⟨rfl, rfl⟩
                go_wp2_with fail
                refine TV.out.mono ?_
                rintro e w2 ⟨rfl, rfl⟩
                go_wp2_with fail
                go_loopg [8, 10, 11] (4) (fun gk b8 b10 b11 wi => ∃ (k : Nat) (nn : Int), 4 ≤ k + gk ∧ k ≤ 4 ∧ i + 2 + k ≤ rs.length ∧ 0 ≤ nn ∧ nn < 16 ^ k ∧ hexF rs (4 - k) (i + 2 + k) nn = hexF rs 4 (i + 2) 0 ∧ b8 = .int .i64 ((i + 2 + k : Nat) : Int) ∧ b10 = .int .i64 nn ∧ b11 = .int .i64 (k : Int) ∧ wr = wi)
                case atStart => exact ⟨0, 0, by omega, by omega, by omega, by decide, by decide, rfl, rfl, rfl, rfl, rfl⟩
                case round =>
                  obtain ⟨k, nn, hgk, hk, hpk, hn0, hn1, hx, rfl, rfl, rfl, rfl⟩ := hrel
                  have hp16 := pow16 k (by omega)
                  have HX := Lib.hid hx
                  clear hx
                  by_cases hkm : k < 4
                  · obtain ⟨j, hj⟩ : ∃ j, 4 - k = j + 1 := ⟨4 - k - 1, by omega⟩
                    have hx2 := HX.out
                    rw [hj, hexF_succ] at hx2
                    by_cases hq : i + 2 + k < rs.length
                    · have cq := HSW.out.cell hq
                      have HHH := Lib.hid (HH.out (peekOf rs (i + 2 + k)) wr)
                      have hdb := hexR_le (peekOf rs (i + 2 + k))
                      by_cases hd : hexR (peekOf rs (i + 2 + k)) < 0
                      · rw [if_pos hd] at hx2
                        have hnr : numR rs 4 (i + 2) = (0, i + 2 + k, false) := by unfold numR; rw [← hx2]; rfl
                        have hrr := HIRR.out
                        rw [hnr, if_neg Bool.false_ne_true] at hrr
                        subst hrr
                        clear hnr hx2
                        generalize hexR (peekOf rs (i + 2 + k)) = d at *
                        go_wp2_with fail
                        refine HHH.out.mono ?_
                        rintro e w2 ⟨rfl, rfl⟩
                        go_wp2_with fail
                        go_ret3
                        exact ⟨rfl, HF.out⟩
                      · rw [if_neg hd] at hx2
                        have HXX := Lib.hid hx2
                        have HP4 : 16 * nn + hexR (peekOf rs (i + 2 + k)) < 16 ^ (k + 1) := by rw [Int.pow_succ]; omega
                        generalize hexR (peekOf rs (i + 2 + k)) = d at *
                        clear hx2
                        have w1 : wrap64 (nn * 16) = nn * 16 := IntWalk.wrap64_in _ (by omega)
                        have w2 : wrap64 (nn * 16 + d) = nn * 16 + d := IntWalk.wrap64_in _ (by omega)
                        go_wp2_with fail
                        refine HHH.out.mono ?_
                        rintro e w2 ⟨rfl, rfl⟩
                        go_wp2_with fail
                        refine HHH.out.mono ?_
                        rintro e w2 ⟨rfl, rfl⟩
                        go_wp2_with fail
                        go_roundg (4 - (k + 1))
                        case measure => omega
                        case rel => exact ⟨k + 1, nn * 16 + d, by omega, by omega, by omega, by omega, by rw [Int.mul_comm nn 16]; exact HP4, by rw [show 4 - (k + 1) = j by omega, Int.mul_comm nn 16]; exact HXX.out, rfl, rfl, rfl, rfl⟩
                    · have hd : hexR (peekOf rs (i + 2 + k)) < 0 := by rw [peek_past hq]; decide
                      rw [if_pos hd] at hx2
                      have hnr : numR rs 4 (i + 2) = (0, i + 2 + k, false) := by unfold numR; rw [← hx2]; rfl
                      have hrr := HIRR.out
                      rw [hnr, if_neg Bool.false_ne_true] at hrr
                      subst hrr
                      clear hnr hx2 hd
                      go_wp2_with fail
                      go_ret3
                      exact ⟨rfl, HF.out⟩
                  · obtain rfl : k = 4 := by omega
                    have hx2 := HX.out
                    rw [Nat.sub_self, hexF_zero] at hx2
                    have HSS := Lib.hid (HSI.out nn wr)
                    by_cases hsg2 : signR nn = true
                    · have hnr : numR rs 4 (i + 2) = (nn, i + 2 + 4, true) := by unfold numR; rw [← hx2, if_pos rfl, if_pos hsg2]
                      have hrr := HIRR.out
                      rw [hnr, if_pos rfl] at hrr
                      have HRR := Lib.hid hrr.symm
                      rw [show rSign nn = true from hsg2] at HSS
                      clear hrr hnr hx2
                      go_wp2_with fail
                      refine HSS.out.mono ?_
                      rintro e w2 ⟨rfl, rfl⟩
                      go_wp2_with (at_builtin; refine wpList_append_own _ rfl _ _ 48 rfl w.heap.size 3 i3 _ 1 8 Tryz.underlying48 hi3 hz0 hz1 hz2 rfl (by decide) (.slice A6 out.length c6) out.length (out.map (.int .i64)) (by rfl) (HROW.out.alloc _) ⟨wr.heap.size, 0, none⟩ 1 1 [.int .i64 nn] (by rfl) rfl (World.news_of_block (heap_alloc_new wr _)) (by intro u hu; rw [List.mem_singleton] at hu; rw [hu]; rfl) (by unfold maxLen; omega) (by omega) (by simp; omega) ?_; intro v7 w7 hown7 hgr7 _; have F7 := (show Fr (fun j => w.heap.size ≤ j) w w7 from ((HF.out.mono (fun _ _ h => h.elim)).alloc _).trans ((Fr.of_grown hgr7).mono (fun j _ e => (HROW.out.lt j e).1)) (fun _ _ h => h)); have HOWN7 := Lib.hid hown7; have HF7 := Lib.hid (F7.shut (Nat.le_refl _)); clear hown7 hgr7 F7)
                      go_roundg (rs.length + 1 - (i + 2 + 4))
                      case measure => omega
                      case rel => exact ⟨i + 2 + 4, out ++ [nn], rfl, by omega, by omega, by rw [List.length_append]; show out.length + 1 ≤ _; omega, HRR.out, by rw [List.length_append, List.map_append]; exact HOWN7.out, mem_push HOS.out hsg2, HF7.out⟩
                    · have hsf : signR nn = false := by simpa using hsg2
                      have hnr : numR rs 4 (i + 2) = (0, i + 2 + 4 - 1, false) := by unfold numR; rw [← hx2, if_pos rfl, if_neg hsg2]
                      have hrr := HIRR.out
                      rw [hnr, if_neg Bool.false_ne_true] at hrr
                      subst hrr
                      rw [show rSign nn = false from hsf] at HSS
                      clear hnr hx2
                      go_wp2_with fail
                      refine HSS.out.mono ?_
                      rintro e w2 ⟨rfl, rfl⟩
                      go_wp2_with fail
                      go_ret3
                      refine ⟨?_, HF.out⟩
                      show _ = Ending.returned (.tuple #[.string (optS none), .int .i64 ((i + 2 + 4 - 1 : Nat) : Int), .bool false])
                      rw [show ((i + 2 + 4 - 1 : Nat) : Int) = (i : Int) + 2 + 4 - 1 by omega]
                      rfl
              · by_cases hU : peekOf rs (i + 1) = 85
                · skip
                  rw [hU] at TU TV
                  have hpl := peek_lt (rs := rs) (p := i + 1) (by omega)
                  have hrr := iriT_U (rs := rs) (i := i) out h92 hU
                  rw [HIR.out] at hrr
                  have HIRR := Lib.hid hrr
                  clear hrr
                  go_wp2_with fail
                  refine TU.out.mono ?_
                  rintro e w2 ⟨rfl, rfl⟩
                  go_wp2_with fail
                  refine TV.out.mono ?_
                  rintro e w2 ⟨rfl, rfl⟩
                  go_wp2_with fail
                  go_loopg [8, 10, 11] (8) (fun gk b8 b10 b11 wi => ∃ (k : Nat) (nn : Int), 8 ≤ k + gk ∧ k ≤ 8 ∧ i + 2 + k ≤ rs.length ∧ 0 ≤ nn ∧ nn < 16 ^ k ∧ hexF rs (8 - k) (i + 2 + k) nn = hexF rs 8 (i + 2) 0 ∧ b8 = .int .i64 ((i + 2 + k : Nat) : Int) ∧ b10 = .int .i64 nn ∧ b11 = .int .i64 (k : Int) ∧ wr = wi)
                  case atStart => exact ⟨0, 0, by omega, by omega, by omega, by decide, by decide, rfl, rfl, rfl, rfl, rfl⟩
                  case round =>
                    obtain ⟨k, nn, hgk, hk, hpk, hn0, hn1, hx, rfl, rfl, rfl, rfl⟩ := hrel
                    have hp16 := pow16 k (by omega)
                    have HX := Lib.hid hx
                    clear hx
                    by_cases hkm : k < 8
                    · obtain ⟨j, hj⟩ : ∃ j, 8 - k = j + 1 := ⟨8 - k - 1, by omega⟩
                      have hx2 := HX.out
                      rw [hj, hexF_succ] at hx2
                      by_cases hq : i + 2 + k < rs.length
                      · have cq := HSW.out.cell hq
                        have HHH := Lib.hid (HH.out (peekOf rs (i + 2 + k)) wr)
                        have hdb := hexR_le (peekOf rs (i + 2 + k))
                        by_cases hd : hexR (peekOf rs (i + 2 + k)) < 0
                        · rw [if_pos hd] at hx2
                          have hnr : numR rs 8 (i + 2) = (0, i + 2 + k, false) := by unfold numR; rw [← hx2]; rfl
                          have hrr := HIRR.out
                          rw [hnr, if_neg Bool.false_ne_true] at hrr
                          subst hrr
                          clear hnr hx2
                          generalize hexR (peekOf rs (i + 2 + k)) = d at *
                          go_wp2_with fail
                          refine HHH.out.mono ?_
                          rintro e w2 ⟨rfl, rfl⟩
                          go_wp2_with fail
                          go_ret3
                          exact ⟨rfl, HF.out⟩
                        · rw [if_neg hd] at hx2
                          have HXX := Lib.hid hx2
                          have HP4 : 16 * nn + hexR (peekOf rs (i + 2 + k)) < 16 ^ (k + 1) := by rw [Int.pow_succ]; omega
                          generalize hexR (peekOf rs (i + 2 + k)) = d at *
                          clear hx2
                          have w1 : wrap64 (nn * 16) = nn * 16 := IntWalk.wrap64_in _ (by omega)
                          have w2 : wrap64 (nn * 16 + d) = nn * 16 + d := IntWalk.wrap64_in _ (by omega)
                          go_wp2_with fail
                          refine HHH.out.mono ?_
                          rintro e w2 ⟨rfl, rfl⟩
                          go_wp2_with fail
                          refine HHH.out.mono ?_
                          rintro e w2 ⟨rfl, rfl⟩
                          go_wp2_with fail
                          go_roundg (8 - (k + 1))
                          case measure => omega
                          case rel => exact ⟨k + 1, nn * 16 + d, by omega, by omega, by omega, by omega, by rw [Int.mul_comm nn 16]; exact HP4, by rw [show 8 - (k + 1) = j by omega, Int.mul_comm nn 16]; exact HXX.out, rfl, rfl, rfl, rfl⟩
                      · have hd : hexR (peekOf rs (i + 2 + k)) < 0 := by rw [peek_past hq]; decide
                        rw [if_pos hd] at hx2
                        have hnr : numR rs 8 (i + 2) = (0, i + 2 + k, false) := by unfold numR; rw [← hx2]; rfl
                        have hrr := HIRR.out
                        rw [hnr, if_neg Bool.false_ne_true] at hrr
                        subst hrr
                        clear hnr hx2 hd
                        go_wp2_with fail
                        go_ret3
                        exact ⟨rfl, HF.out⟩
                    · obtain rfl : k = 8 := by omega
                      have hx2 := HX.out
                      rw [Nat.sub_self, hexF_zero] at hx2
                      have HSS := Lib.hid (HSI.out nn wr)
                      by_cases hsg2 : signR nn = true
                      · have hnr : numR rs 8 (i + 2) = (nn, i + 2 + 8, true) := by unfold numR; rw [← hx2, if_pos rfl, if_pos hsg2]
                        have hrr := HIRR.out
                        rw [hnr, if_pos rfl] at hrr
                        have HRR := Lib.hid hrr.symm
                        rw [show rSign nn = true from hsg2] at HSS
                        clear hrr hnr hx2
                        go_wp2_with fail
                        refine HSS.out.mono ?_
                        rintro e w2 ⟨rfl, rfl⟩
                        go_wp2_with (at_builtin; refine wpList_append_own _ rfl _ _ 48 rfl w.heap.size 3 i3 _ 1 8 Tryz.underlying48 hi3 hz0 hz1 hz2 rfl (by decide) (.slice A6 out.length c6) out.length (out.map (.int .i64)) (by rfl) (HROW.out.alloc _) ⟨wr.heap.size, 0, none⟩ 1 1 [.int .i64 nn] (by rfl) rfl (World.news_of_block (heap_alloc_new wr _)) (by intro u hu; rw [List.mem_singleton] at hu; rw [hu]; rfl) (by unfold maxLen; omega) (by omega) (by simp; omega) ?_; intro v7 w7 hown7 hgr7 _; have F7 := (show Fr (fun j => w.heap.size ≤ j) w w7 from ((HF.out.mono (fun _ _ h => h.elim)).alloc _).trans ((Fr.of_grown hgr7).mono (fun j _ e => (HROW.out.lt j e).1)) (fun _ _ h => h)); have HOWN7 := Lib.hid hown7; have HF7 := Lib.hid (F7.shut (Nat.le_refl _)); clear hown7 hgr7 F7)
                        go_roundg (rs.length + 1 - (i + 2 + 8))
                        case measure => omega
                        case rel => exact ⟨i + 2 + 8, out ++ [nn], rfl, by omega, by omega, by rw [List.length_append]; show out.length + 1 ≤ _; omega, HRR.out, by rw [List.length_append, List.map_append]; exact HOWN7.out, mem_push HOS.out hsg2, HF7.out⟩
                      · have hsf : signR nn = false := by simpa using hsg2
                        have hnr : numR rs 8 (i + 2) = (0, i + 2 + 8 - 1, false) := by unfold numR; rw [← hx2, if_pos rfl, if_neg hsg2]
                        have hrr := HIRR.out
                        rw [hnr, if_neg Bool.false_ne_true] at hrr
                        subst hrr
                        rw [show rSign nn = false from hsf] at HSS
                        clear hnr hx2
                        go_wp2_with fail
                        refine HSS.out.mono ?_
                        rintro e w2 ⟨rfl, rfl⟩
                        go_wp2_with fail
                        go_ret3
                        refine ⟨?_, HF.out⟩
                        show _ = Ending.returned (.tuple #[.string (optS none), .int .i64 ((i + 2 + 8 - 1 : Nat) : Int), .bool false])
                        rw [show ((i + 2 + 8 - 1 : Nat) : Int) = (i : Int) + 2 + 8 - 1 by omega]
                        rfl
                · have hrr := (iriT_no (rs := rs) (i := i) out h92 hu hU).symm.trans HIR.out
                  subst hrr
                  rw [decide_eq_false hu] at TU
                  rw [decide_eq_false hU] at TV
                  go_wp2_with fail
                  refine TU.out.mono ?_
                  rintro e w2 ⟨rfl, rfl⟩
                  go_wp2_with fail
                  refine TV.out.mono ?_
                  rintro e w2 ⟨rfl, rfl⟩
                  go_wp2_with fail
                  go_ret3
                  exact ⟨rfl, HF.out⟩
            · have HRR := Lib.hid ((iriT_go (rs := rs) (i := i) out hil h10 h62 h92).symm.trans HIR.out)
              have b62 : (peekOf rs i != 62) = true := by simpa using h62
              have b10 : (peekOf rs i != 10) = true := by simpa using h10
              have b92 : (peekOf rs i != 92) = true := by simpa using h92
              generalize peekOf rs i = r at *
              go_wp2_with (at_builtin; refine wpList_append_own _ rfl _ _ 48 rfl w.heap.size 3 i3 _ 1 8 Tryz.underlying48 hi3 hz0 hz1 hz2 rfl (by decide) (.slice A6 out.length c6) out.length (out.map (.int .i64)) (by rfl) (HROW.out.alloc _) ⟨wr.heap.size, 0, none⟩ 1 1 [.int .i64 r] (by rfl) rfl (World.news_of_block (heap_alloc_new wr _)) (by intro u hu; rw [List.mem_singleton] at hu; rw [hu]; rfl) (by unfold maxLen; omega) (by omega) (by simp; omega) ?_; intro v7 w7 hown7 hgr7 _; have F7 := (show Fr (fun j => w.heap.size ≤ j) w w7 from ((HF.out.mono (fun _ _ h => h.elim)).alloc _).trans ((Fr.of_grown hgr7).mono (fun j _ e => (HROW.out.lt j e).1)) (fun _ _ h => h)); have HOWN7 := Lib.hid hown7; have HF7 := Lib.hid (F7.shut (Nat.le_refl _)); clear hown7 hgr7 F7)
              go_roundg (rs.length + 1 - (i + 1))
              case measure => omega
              case rel => exact ⟨i + 1, out ++ [r], rfl, by omega, by omega, by rw [List.length_append]; show out.length + 1 ≤ _; omega, HRR.out, by rw [List.length_append, List.map_append]; exact HOWN7.out, mem_push HOS.out hsg, HF7.out⟩
      · have hrr := (iriT_end (rs := rs) (i := i) out (fun h => hil h.1)).symm.trans HIR.out
        subst hrr
        rw [peek_past hil] at TE
        go_wp2_with fail
        refine TE.out.mono ?_
        rintro e w2 ⟨rfl, rfl⟩
        go_wp2_with fail
        go_ret3
        exact ⟨rfl, HF.out⟩
  · rw [if_neg hp0] at hres
    rw [decide_eq_false hp0] at S0
    subst hres
    go_enter Tryz.func43, Tryz.ntmps43
    go_wp2_with fail
    refine S0.out.mono ?_
    rintro e w1 ⟨rfl, rfl⟩
    go_wp2_with fail
    go_ret3
    exact ⟨rfl, Fr.refl _ _⟩

end Go.Proofs.YtebddgdkndmpjaaGreatDoor
