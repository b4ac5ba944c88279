/- The document's buffer: Take walked. -/
import Derived.Test.YtgcmdoinihehcaaWk
import Derived.Test.YtgcmdoinihehcaaAc
import Derived.Test.YtgcmdoinihehcaaPn
import Derived.Test.YtgcmdoinihehcaaPr
import Derived.Test.YtgcmdoinihehcaaTa
import Derived.Deep.CutBlock
import Derived.Deep.RegionLawGrows
import Derived.Deep.Cut
import Derived.Deep.CutRange
import Derived.WalkKit
import Derived.WalkLawsBesides
import Derived.WalkSpells
import Derived.Deep.QuietTactic
import Derived.BigRegion
import Derived.BigQuiet
import Derived.Lib.Hide
import Derived.Outline
import Derived.Deep.AppendLies
import Derived.Deep.RegionLaw
import Derived.Deep.RegionWith
import Derived.Deep.RegionHeld3
import Derived.Deep.LoopGhost
import Derived.Deep.DeepFit
import Derived.Laws.ResultCell
import Derived.Deep.MidRow
import Derived.StillTailTactics
import Derived.OpenShut
namespace Go.Proofs.Ytgcmdoinihehcaa
set_option linter.unusedVariables false
open Go.RowKit Go



set_option maxRecDepth 100000 in
set_option maxHeartbeats 8000000 in
theorem rtake_any (r : RB) (vw vs vc : Value) (n0 : Nat) (all : Bool) (w : World) (hn : n0 ≤ w.heap.size) (hm : RMem w n0 r vw vs vc) (hwl : r.wait.length ≤ 1000) (hsl : r.seen.length ≤ 1000) (hcl : r.shown.length ≤ 1000)
    (h0 : 0 ≤ r.lat) (h1 : r.lat ≤ 1152921504606846976) (hin : ∀ x ∈ r.seen ++ r.shown, inst x = true) :
    Calls Try.prog 21 #[rAgg r vw vs vc, .bool all] w fun e w' => ∃ vw' o, e = .returned (.tuple #[rAgg (rTake r all) vw' vs vc, o]) ∧ RMem w' n0 (rTake r all) vw' vs vc ∧ w'.ownsRow n0 73 5 o (rOut r all).length (iCells (rOut r all)) ∧ Fr (fun _ => False) w w' := by
  obtain ⟨i7, hi7, hz70, hz71, hz72⟩ := info_parts info73
  have HMK := Lib.hid (fun (w' : World) (hn' : n0 ≤ w'.heap.size) (hm' : RMem w' n0 r vw vs vc) => rmark_any r.lat r.room vw vs vc r.num r.late r.closed n0 r.seen r.shown w' hn' hm'.seen hm'.shown hsl hcl h0 h1 hin)
  obtain ⟨lat, room, wait, seen, shown, num, late, closed⟩ := r
  obtain ⟨A1, c1, hv1⟩ := row_shape hm.wait
  obtain ⟨A2, c2, hv2⟩ := row_shape hm.seen
  obtain ⟨A3, c3, hv3⟩ := row_shape hm.shown
  subst hv1 hv2 hv3
  have hwl : wait.length ≤ 1000 := hwl
  clear h0 h1 hin hsl hcl
  go_enter Try.func21, Try.ntmps21
  go_upto_region 1 with (fail)
  have e1 : (w.alloc (.cells (bCells lat room (.slice A1 wait.length c1) (.slice A2 seen.length c2) (.slice A3 shown.length c3) num late closed) 54)).heap.size = w.heap.size + 1 := by simp
  have hB : Blk ((w.alloc (.cells (bCells lat room (.slice A1 wait.length c1) (.slice A2 seen.length c2) (.slice A3 shown.length c3) num late closed) 54)).alloc (.cells zB 54)) w.heap.size 54 (bCells lat room (.slice A1 wait.length c1) (.slice A2 seen.length c2) (.slice A3 shown.length c3) num late closed) := (Blk.new w _ _).alloc _
  have hZ : Blk ((w.alloc (.cells (bCells lat room (.slice A1 wait.length c1) (.slice A2 seen.length c2) (.slice A3 shown.length c3) num late closed) 54)).alloc (.cells zB 54)) (w.heap.size + 1) 54 zB := by
    have := Blk.new (w.alloc (.cells (bCells lat room (.slice A1 wait.length c1) (.slice A2 seen.length c2) (.slice A3 shown.length c3) num late closed) 54)) 54 zB
    rw [e1] at this
    exact this
  have hf0 : Fr (fun _ => False) w ((w.alloc (.cells (bCells lat room (.slice A1 wait.length c1) (.slice A2 seen.length c2) (.slice A3 shown.length c3) num late closed) 54)).alloc (.cells zB 54)) := ((Fr.refl _ _).alloc _).alloc _
  clear e1
  generalize ((w.alloc (.cells (bCells lat room (.slice A1 wait.length c1) (.slice A2 seen.length c2) (.slice A3 shown.length c3) num late closed) 54)).alloc (.cells zB 54)) = w0 at *
  have hsz0 := hf0.size
  have HM := Lib.hid hm
  have HP := Lib.hid (HMK.out w0 (by omega) (hm.frF hf0))
  clear hm
  obtain ⟨b0, b1, b2, b3, b4, b5, b6, b7⟩ := hB.cells8
  go_wp2_with fail
  refine HP.out.mono ?_
  rintro e w1 ⟨rfl, hf1⟩
  replace hB := hB.fr hf1 (fun h => h)
  replace hZ := hZ.fr hf1 (fun h => h)
  have hf2 : Fr (fun _ => False) w w1 := hf0.trans' hf1
  have hsz1 := hf2.size
  clear b0 b1 b2 b3 b4 b5 b6 b7 HP hf0 hf1 HMK
  have b2 := hB.cell 2
  simp only [List.getElem?_toArray, List.getElem?_cons_zero, List.getElem?_cons_succ] at b2
  have hw1 := (HM.out.frF hf2).wait
  simp only at hw1
  have hBl := hB.lt
  have hZl := hZ.lt
  have HF := Lib.hid hf2
  have HB := Lib.hid hB
  have HZ := Lib.hid hZ
  clear hf2 hB hZ
  have hmk : RB.mark ⟨lat, room, wait, seen, shown, num, late, closed⟩ = markL lat (seen ++ shown) := rfl
  generalize markL lat (seen ++ shown) = p at *
  have HMK := Lib.hid hmk
  clear hmk
  obtain ⟨n, hn9⟩ : ∃ n, n = wait.length := ⟨_, rfl⟩
  have hn8 : n ≤ 1000 := by omega
  rw [← hn9] at hw1 b2
  have HN := Lib.hid hn9
  clear hn9
  go_wp2_with fail
  go_loopw [22, 8, 9] (fun iv ov lv wr => ∃ (k : Nat), iv = .int .i64 (k : Int) ∧ k ≤ n ∧ wr.ownsRow w1.heap.size 73 5 ov (outL p all (wait.take k)).length (iCells (outL p all (wait.take k))) ∧
      wr.ownsRow w1.heap.size 73 5 lv (leftL p all (wait.take k)).length (iCells (leftL p all (wait.take k))) ∧ (∀ j, ov.ownBlock = some j → lv.ownBlock ≠ some j) ∧ Fr (fun j => w1.heap.size ≤ j) w1 wr) (fun iv _ _ _ => n - (intOf iv).toNat)
  case atStart => exact ⟨0, rfl, Nat.zero_le _, World.ownsRow_nil _ _ _ _, World.ownsRow_nil _ _ _ _, (fun j hj => by cases hj), Fr.refl _ _⟩
  case round =>
    obtain ⟨k, rfl, hk, ho, hl, hap, hfr⟩ := hrel
    have hszr := hfr.size
    have hlo := outL_len p all (wait.take k)
    have hll := leftL_len p all (wait.take k)
    have htk : (wait.take k).length = k := by rw [List.length_take]; have := HN.out; omega
    rw [htk] at hlo hll
    by_cases hlt : k < n
    · have hkw : k < wait.length := by rw [← HN.out]; exact hlt
      have hts : wait.take (k + 1) = wait.take k ++ [wait[k]] := List.take_succ_eq_append_getElem hkw
      have hos := outL_snoc p all (wait.take k) wait[k]
      have hls := leftL_snoc p all (wait.take k) wait[k]
      rw [← hts] at hos hls
      obtain ⟨g, hg, -, hgl, hgc⟩ := row_form hw1 (by omega)
      subst hg
      have hwr := ownsRow_fr hw1 hfr (fun j hj e => by have := (World.ownsRow.lt hw1 j hj).2; omega)
      have hcell : ∀ j, j < 5 → wr.cell? ⟨g, k * 5 + j, none⟩ = (itemCells wait[k])[j]? := fun j hj => by
        rw [World.ownsRow.cellAt hwr _ (by omega)]
        exact flat_get wait k j hkw hj
      have d0 := hcell 0 (by omega)
      have d1 := hcell 1 (by omega)
      have d2 := hcell 2 (by omega)
      have d3 := hcell 3 (by omega)
      have d4 := hcell 4 (by omega)
      have hBr := HB.out.fr hfr (by omega)
      have hb2r := hBr.cell 2
      have hBlr := hBr.lt
      clear hcell htk hts
      generalize wait[k] = x at *
      obtain ⟨xt, xs, x0, x1, x2⟩ := x
      generalize hO : outL p all (wait.take k) = O at *
      generalize hL : leftL p all (wait.take k) = L at *
      have HO := Lib.hid hO
      have HL := Lib.hid hL
      have HOS := Lib.hid hos
      have HLS := Lib.hid hls
      clear hO hL hos hls
      simp only [itemCells, List.getElem?_cons_zero, List.getElem?_cons_succ, Nat.add_zero] at d0 d1 d2 d3 d4
      simp only [List.getElem?_toArray, List.getElem?_cons_zero, List.getElem?_cons_succ] at hb2r
      rw [← HN.out] at hb2r
      have hlt' : (k : Int) < (n : Int) := by omega
      have hkn : decide (n ≤ k) = false := decide_eq_false (by omega)
      have hgr : g < wr.heap.size := by omega
      clear hBr
      go_upto_region 7 with (fail)
      have hX := Blk.new wr 73 #[.int .i64 xt, .int .i64 xs, .int .i64 x0, .int .i64 x1, .int .i64 x2]
      have hfy : Fr (fun j => w1.heap.size ≤ j) w1 (wr.alloc (.cells #[.int .i64 xt, .int .i64 xs, .int .i64 x0, .int .i64 x1, .int .i64 x2] 73)) := hfr.alloc _
      have hoy := ho.alloc (.cells #[.int .i64 xt, .int .i64 xs, .int .i64 x0, .int .i64 x1, .int .i64 x2] 73)
      have hly := hl.alloc (.cells #[.int .i64 xt, .int .i64 xs, .int .i64 x0, .int .i64 x1, .int .i64 x2] 73)
      generalize wr.alloc (.cells #[.int .i64 xt, .int .i64 xs, .int .i64 x0, .int .i64 x1, .int .i64 x2] 73) = wy at *
      obtain ⟨gx, hgx⟩ : ∃ gx, gx = wr.heap.size := ⟨_, rfl⟩
      rw [← hgx] at hX ⊢
      have hgx1 : w1.heap.size ≤ gx := by omega
      clear d0 d1 d2 d3 d4 hb2r hfr ho hl hgx
      have y0 := hX.cell 0
      have y1 := hX.cell 1
      have y2 := hX.cell 2
      have y3 := hX.cell 3
      have y4 := hX.cell 4
      simp only [List.getElem?_toArray, List.getElem?_cons_zero, List.getElem?_cons_succ] at y0 y1 y2 y3 y4
      have hXl := hX.lt
      have HX := Lib.hid hX
      clear hX
      obtain ⟨m, ok⟩ := p
      go_cut [41] from 30 to 41 (fun c wx => c = .bool (!goes (m, ok) all ⟨xt, xs, x0, x1, x2⟩) ∧ wx = wy)
      case first =>
        cases all with
        | true => go_wp2_with fail; go_meet; exact ⟨rfl, rfl⟩
        | false =>
          cases ok with
          | false => go_wp2_with fail; go_meet; exact ⟨rfl, rfl⟩
          | true =>
            by_cases hd : xt < m
            · have hd' : decide (xt < m) = true := decide_eq_true hd
              go_wp2_with fail
              go_meet
              exact ⟨by simp [goes, hd], rfl⟩
            · have hd' : decide (xt < m) = false := decide_eq_false hd
              go_wp2_with fail
              go_meet
              exact ⟨by simp [goes, hd], rfl⟩
      case rest =>
        obtain ⟨hcb, hwx⟩ := hcut
        subst hwx
        cases hg : goes (m, ok) all ⟨xt, xs, x0, x1, x2⟩ with
        | false =>
          rw [hg] at hcb
          simp only [Bool.not_false] at hcb
          subst hcb
          have hls2 := HLS.out
          have hos2 := HOS.out
          rw [hg, if_neg (by simp)] at hls2 hos2
          have HL2 := Lib.hid hls2
          have HO2 := Lib.hid hos2
          clear hls2 hos2 hg
          go_wp2_with (at_builtin; refine wpList_append_own_at _ rfl _ _ 52 rfl w1.heap.size 73 i7 _ 5 40 Try.underlying52 hi7 hz70 hz71 hz72 rfl (by decide) _ L.length (iCells L) (by rfl) (hly.alloc _) ⟨wc.heap.size, 0, none⟩ 1 1 (itemCells ⟨xt, xs, x0, x1, x2⟩) (by rfl) rfl (World.news_of_block (heap_alloc_new wc _)) (itemCells_one _) (by unfold maxLen; omega) (by omega) (by simp; omega) ?_; intro v2 w3 hown2 hgr2 _ hat2)
          have hF3 : Fr (fun j => w1.heap.size ≤ j) w1 w3 := (hfy.alloc _).trans (Fr.of_grown hgr2) (fun i _ e => (World.ownsRow.lt hly i e).1)
          have ho3 := ownsRow_fr (hoy.alloc (.cells #[.int .i64 xt, .int .i64 xs, .int .i64 x0, .int .i64 x1, .int .i64 x2] 73)) (Fr.of_grown hgr2) (fun j hj e => hap j hj e)
          go_roundw
          case rel =>
            refine ⟨k + 1, by go_num, by omega, ?_, ?_, ?_, hF3⟩
            · rw [HO2.out]
              exact ho3
            · rw [HL2.out]
              have e : (L ++ [(⟨xt, xs, x0, x1, x2⟩ : Item)]).length = L.length + 1 := by simp
              have e2 : iCells (L ++ [(⟨xt, xs, x0, x1, x2⟩ : Item)]) = iCells L ++ itemCells ⟨xt, xs, x0, x1, x2⟩ := by simp [iCells]
              rw [e, e2]
              exact hown2
            · intro j hj e
              rcases hat2 with h | h
              · exact hap j hj (by rw [← h]; exact e)
              · rw [h] at e
                injection e with e
                have := (World.ownsRow.lt hoy j hj).2
                simp at e
                omega
          case measure => simp [intOf]; omega
        | true =>
          rw [hg] at hcb
          simp only [Bool.not_true] at hcb
          subst hcb
          have hls2 := HLS.out
          have hos2 := HOS.out
          rw [hg, if_pos rfl] at hls2 hos2
          have HL2 := Lib.hid hls2
          have HO2 := Lib.hid hos2
          clear hls2 hos2 hg hwr hw1 HOS HLS HO HL y0 y1 y2 y3 y4
          obtain ⟨A5, c5, hv5⟩ := row_shape hoy
          subst hv5
          obtain ⟨nO, hnO⟩ : ∃ nO, nO = O.length := ⟨_, rfl⟩
          rw [← hnO] at hoy hlo ⊢
          have hnk : nO ≤ 1000 := by omega
          have HNO := Lib.hid hnO
          clear hnO
          go_upto_block 2 with (fail)
          obtain ⟨wd, rfl⟩ : ∃ wd, wd = wc := ⟨wc, rfl⟩
          go_cut [12] from 46 to 81 (fun c wx => ∃ j : Nat, c = .int .i64 (j : Int) ∧ j ≤ nO ∧ insL ⟨xt, xs, x0, x1, x2⟩ O = O.take j ++ ⟨xt, xs, x0, x1, x2⟩ :: O.drop j ∧ Fr (fun _ => False) wd wx)
          case first =>
            go_wp2_with fail
            go_loopw [12] (fun iv ws => ∃ j : Nat, iv = .int .i64 (j : Int) ∧ j ≤ nO ∧ (∀ i (h : i < O.length), i < j → lt' ⟨xt, xs, x0, x1, x2⟩ O[i] = true) ∧ Fr (fun _ => False) wd ws) (fun iv _ => nO - (intOf iv).toNat)
            case atStart => exact ⟨0, rfl, Nat.zero_le _, fun i h hi => absurd hi (Nat.not_lt_zero _), Fr.refl _ _⟩
            case round =>
              obtain ⟨j, rfl, hj, hall, hfj⟩ := hrel
              have HALL := Lib.hid hall
              clear hall
              have hszj := hfj.size
              by_cases hjn : j < nO
              · have hjO : j < O.length := by rw [← HNO.out]; exact hjn
                obtain ⟨go, hgo, -, hgol, hgoc⟩ := row_form hoy (by omega)
                subst hgo
                have hrj := ownsRow_fr hoy hfj (fun _ _ h => h)
                have hcell : ∀ i, i < 5 → wr.cell? ⟨go, j * 5 + i, none⟩ = (itemCells O[j])[i]? := fun i hi => by
                  rw [World.ownsRow.cellAt hrj _ (by omega)]
                  exact flat_get O j i hjO hi
                have d0 := hcell 0 (by omega)
                have d1 := hcell 1 (by omega)
                have HXj := HX.out.fr hfj (fun h => h)
                have y0 := HXj.cell 0
                have y1 := HXj.cell 1
                have hkn2 : decide (nO ≤ j) = false := decide_eq_false (by omega)
                have hlt2 : (j : Int) < (nO : Int) := by omega
                have hgr2 : go < wr.heap.size := by omega
                have hlt3 : lt' ⟨xt, xs, x0, x1, x2⟩ O[j] = (decide (O[j].t < xt) || (decide (O[j].t = xt) && decide (O[j].s < xs))) := rfl
                have hst : insL ⟨xt, xs, x0, x1, x2⟩ O = O.take j ++ ⟨xt, xs, x0, x1, x2⟩ :: O.drop j ∨ lt' ⟨xt, xs, x0, x1, x2⟩ O[j] = true := by
                  cases h : lt' ⟨xt, xs, x0, x1, x2⟩ O[j] with
                  | true => exact .inr rfl
                  | false => exact .inl (insL_at _ O j (by omega) HALL.out (fun _ => h))
                have hal2 : lt' ⟨xt, xs, x0, x1, x2⟩ O[j] = true → ∀ i (h : i < O.length), i < j + 1 → lt' ⟨xt, xs, x0, x1, x2⟩ O[i] = true := fun h i hi hij => by
                  rcases Nat.lt_or_ge i j with h2 | h2
                  · exact HALL.out i hi h2
                  · obtain rfl : i = j := by omega
                    exact h
                rw [hlt3] at hst hal2
                clear hcell hrj hlt3 HXj
                simp only [itemCells, List.getElem?_cons_zero, List.getElem?_cons_succ, Nat.add_zero] at d0 d1
                simp only [List.getElem?_toArray, List.getElem?_cons_zero, List.getElem?_cons_succ] at y0 y1
                generalize O[j].t = yt at *
                generalize O[j].s = ys at *
                have HST := Lib.hid hst
                have HAL := Lib.hid hal2
                clear hst hal2
                by_cases h1 : yt < xt
                · have h1' : decide (yt < xt) = true := decide_eq_true h1
                  go_wp2_with fail
                  go_big_quiet (fail)
                  go_wp2_with fail
                  go_roundw
                  case rel => exact ⟨j + 1, by go_num, by omega, HAL.out (by simp [h1]), hfj.drewN _⟩
                  case measure => simp [intOf]; omega
                · have h1' : decide (yt < xt) = false := decide_eq_false h1
                  by_cases h2 : yt = xt
                  · subst h2
                    by_cases h3 : ys < xs
                    · have h3' : decide (ys < xs) = true := decide_eq_true h3
                      go_wp2_with fail
                      go_big_quiet (fail)
                      go_wp2_with fail
                      go_roundw
                      case rel => exact ⟨j + 1, by go_num, by omega, HAL.out (by simp [h3]), hfj.drewN _⟩
                      case measure => simp [intOf]; omega
                    · have h3' : decide (ys < xs) = false := decide_eq_false h3
                      go_wp2_with fail
                      go_big_quiet (fail)
                      go_wp2_with fail
                      go_meet
                      exact ⟨j, rfl, hj, HST.out.resolve_right (by simp [h3]), hfj.drewN _⟩
                  · have h2' : (yt == xt) = false := beq_eq_false_iff_ne.2 h2
                    go_wp2_with fail
                    go_big_quiet (fail)
                    go_wp2_with fail
                    go_meet
                    exact ⟨j, rfl, hj, HST.out.resolve_right (by simp [h1, h2]), hfj.drewN _⟩
              · obtain rfl : j = nO := by omega
                have hjO : j = O.length := HNO.out
                have HIN := Lib.hid (insL_at ⟨xt, xs, x0, x1, x2⟩ O j (by omega) HALL.out (fun h => absurd h (by omega)))
                clear hjn hjO
                go_wp2_with fail
                go_big_quiet (fail)
                go_wp2_with fail
                go_meet
                exact ⟨j, rfl, Nat.le_refl _, HIN.out, hfj.drewN _⟩
          case rest =>
            obtain ⟨j, rfl, hj, hins, hfd⟩ := hcut
            have HINS := Lib.hid hins
            clear hins
            have hoy2 := ownsRow_fr hoy hfd (fun _ _ h => h)
            have hly2 := ownsRow_fr hly hfd (fun _ _ h => h)
            have HLT2 := Lib.hid (fun i (e : u9.ownBlock = some i) => (World.ownsRow.lt hly2 i e).2)
            have hX2 := HX.out.fr hfd (fun h => h)
            have hfy2 : Fr (fun i => w1.heap.size ≤ i) w1 wc := hfy.trans hfd (fun _ _ h => h.elim)
            have hszc := hfy2.size
            clear hoy hly hfy hfd
            have hXl2 := hX2.lt
            have HX2 := Lib.hid hX2
            clear hX2 HX hXl
            go_upto_region 12 with (fail)
            obtain ⟨we, rfl⟩ : ∃ we, we = wc := ⟨wc, rfl⟩
            go_cut [13] from 82 to 86 (fun v wx => wx.ownsRow we.heap.size 73 5 v (nO - j) (iCells (O.drop j)) ∧ Fr (fun _ => False) we wx)
            case first =>
              have hlit := World.ownsRow_lit (base := we.heap.size) (size := 5) (e := 73) we #[] 0 (Nat.le_refl _) (by decide) rfl
              cases A5 with
              | none =>
                obtain ⟨hn0, hc0⟩ := row_none hoy2
                subst hc0 hn0
                obtain rfl : j = 0 := by omega
                have hO0 : iCells (O.drop 0) = [] := by
                  have : O = [] := List.eq_nil_of_length_eq_zero HNO.out.symm
                  rw [this]; rfl
                have HO0 := Lib.hid hO0
                clear hO0
                go_wp2_with (at_builtin; refine wpList_append_rows rfl _ _ 52 rfl we.heap.size 73 i7 _ 5 40 Try.underlying52 hi7 hz70 hz71 hz72 rfl (by decide) _ 0 [] (by rfl) hlit 0 (.slice none 0 0) 0 [] (by rfl) (World.ownsRow_nil _ _ _ _) (by simp) (by decide) (by decide) (by simp) ?_; intro v2 w3 hown2 hgr2 hat2)
                go_meet
                rw [Nat.zero_add, List.nil_append] at hown2
                exact ⟨by rw [HO0.out]; exact hown2, ((Fr.refl (fun _ => False) we).alloc _).trans (Fr.of_grown hgr2) (fun i hi e => by have e2 : we.heap.size = i := Option.some.inj e; omega)⟩
              | some A =>
                obtain ⟨go, hgo, hgob, hgol, hgoc⟩ := row_some hoy2
                subst hgo
                obtain ⟨off, hsl, hof⟩ := slice_from (g := go) hj hgoc
                go_wp2_with (at_builtin; refine wpList_append_own_at _ rfl _ _ 52 rfl we.heap.size 73 i7 _ 5 40 Try.underlying52 hi7 hz70 hz71 hz72 rfl (by decide) _ 0 [] (by rfl) hlit ⟨go, off, none⟩ (nO - j) (c5 - j) (iCells (O.drop j)) (by rfl) (by rw [iCells_len, List.length_drop, HNO.out]) (drop_cells (hoy2.alloc _) HNO.out hj hof) (iCells_one _) (by unfold maxLen; omega) (by omega) (by simp) ?_; intro v2 w3 hown2 hgr2 _ hat2)
                go_meet
                rw [Nat.zero_add, List.nil_append] at hown2
                exact ⟨hown2, ((Fr.refl (fun _ => False) we).alloc _).trans (Fr.of_grown hgr2) (fun i hi e => by have e2 : we.heap.size = i := Option.some.inj e; omega)⟩
            case rest =>
              obtain ⟨hrest, hfe⟩ := hcut
              have hoy3 := ownsRow_fr hoy2 hfe (fun _ _ h => h)
              have hly3 := ownsRow_fr hly2 hfe (fun _ _ h => h)
              have hX3 := HX2.out.fr hfe (fun h => h)
              have hfy3 : Fr (fun i => w1.heap.size ≤ i) w1 wc := hfy2.trans hfe (fun _ _ h => h.elim)
              have hsze := hfe.size
              have hnew : ∀ i, u13.ownBlock = some i → we.heap.size ≤ i ∧ i < wc.heap.size := fun i hi => World.ownsRow.lt hrest i hi
              have HNEW := Lib.hid hnew
              clear hoy2 hly2 hfy2 hfe hnew
              obtain ⟨A6, c6, hv6⟩ := row_shape hrest
              subst hv6
              have hXl3 := hX3.lt
              have y0 := hX3.cell 0
              have y1 := hX3.cell 1
              have y2 := hX3.cell 2
              have y3 := hX3.cell 3
              have y4 := hX3.cell 4
              simp only [List.getElem?_toArray, List.getElem?_cons_zero, List.getElem?_cons_succ] at y0 y1 y2 y3 y4
              have HX3 := Lib.hid hX3
              clear hX3 HX2 hXl2
              go_upto_region 13 with (fail)
              obtain ⟨wf, rfl⟩ : ∃ wf, wf = wc := ⟨wc, rfl⟩
              obtain ⟨ao, hsl, hao, hcao⟩ := slice_part hoy3 HNO.out hj
              have HAO := Lib.hid hao
              have HCAO := Lib.hid hcao
              have HY3 := Lib.hid hoy3
              have HS := Lib.hid (fun (w' : World) (hf : Fr (fun _ => False) wf w') => (HX3.out.fr hf (fun h => h)).cells5)
              have HR := Lib.hid hrest
              clear hao hcao hoy3 hrest
              go_region_held3 (fun w' => w'.cell? ⟨gx, 0, none⟩ = some (.int .i64 xt) ∧ w'.cell? ⟨gx, 1, none⟩ = some (.int .i64 xs) ∧ w'.cell? ⟨gx, 2, none⟩ = some (.int .i64 x0) ∧ w'.cell? ⟨gx, 3, none⟩ = some (.int .i64 x1) ∧ w'.cell? ⟨gx, 4, none⟩ = some (.int .i64 x2))
                (first | exact HS.out _ F2 | exact HS.out _ F1 | exact HS.out _ ((Fr.refl _ _).alloc _).drew | exact HS.out _ (Fr.refl _ _).drew)
                (first
                  | (refine step_append_grows rfl _ _ 52 (by rfl) 73 i7 _ 5 40 Try.underlying52 hi7 hz70 hz71 hz72 rfl (by decide) ao j j (iCells (O.take j)) (by rfl) HAO.out (by rw [iCells_len, List.length_take, ← HNO.out, Nat.min_eq_left hj]) (fun b hb => grow_cells _ (HCAO.out b hb)) ⟨wf.heap.size, 0, none⟩ 1 1 (itemCells ⟨xt, xs, x0, x1, x2⟩) (by rfl) rfl (World.news_of_block (heap_alloc_new wf _)) (itemCells_one _) (by omega) (by unfold maxLen; omega) (by omega) ?_; intro v1 w2 hown1 hgr1; have F1 : Fr (fun _ => False) wf w2 := (((Fr.refl (fun _ => False) wf).alloc _).drew).trans (Fr.of_grown hgr1) (fun i _ e => by cases e); replace hown1 := row_base hown1 (B' := wf.heap.size) (by simp))
                  | (refine step_append_rows rfl _ _ 52 (by rfl) wf.heap.size 73 i7 _ 5 40 Try.underlying52 hi7 hz70 hz71 hz72 rfl (by decide) v1 (j + 1) _ (by rfl) hown1 we.heap.size (.slice A6 (nO - j) c6) (nO - j) (iCells (O.drop j)) (by rfl) (ownsRow_fr HR.out F1 (fun _ _ h => h)) (iCells_one _) (by unfold maxLen; omega) (by omega) F1.size ?_; intro v3 w4 hown3 hgr3 hat3; have F2 : Fr (fun _ => False) wf w4 := F1.trans (Fr.of_grown hgr3) (fun i hi e => by have := (World.ownsRow.lt hown1 i e).1; omega)))
              have hnew : w4.ownsRow wf.heap.size 73 5 v3 (nO + 1) (iCells (insL ⟨xt, xs, x0, x1, x2⟩ O)) := by
                have := hown3
                rw [ins_cells HINS.out] at this
                have e : j + 1 + (nO - j) = nO + 1 := by omega
                rw [e] at this
                exact this
              have hly4 := ownsRow_fr hly3 F2 (fun _ _ h => h)
              have hfy4 : Fr (fun i => w1.heap.size ≤ i) w1 w4 := hfy3.trans F2 (fun _ _ h => h.elim)
              clear hown3 hown1 hgr1 hgr3 hat3
              go_wp2_with fail
              go_roundw
              case rel =>
                refine ⟨k + 1, by go_num, by omega, ?_, ?_, ?_, hfy4⟩
                · rw [HO2.out]
                  have e : (insL ⟨xt, xs, x0, x1, x2⟩ O).length = nO + 1 := by rw [(insL_perm _ O).length_eq, HNO.out]; rfl
                  rw [e]
                  exact row_base hnew (by omega)
                · rw [HL2.out]
                  exact hly4
                · intro i hi e
                  have h1 := (World.ownsRow.lt hnew i hi).1
                  have h2 := HLT2.out i e
                  omega
              case measure => simp [intOf]; omega
    · have hkn : k = n := by omega
      subst hkn
      have hge : (k : Int) ≤ (k : Int) := Int.le_refl _
      have hBr := HB.out.fr hfr (by omega)
      have hZr := HZ.out.fr hfr (by omega)
      have ht : wait.take k = wait := by rw [HN.out]; exact List.take_length
      rw [ht] at ho hl
      obtain ⟨A4, c4, hv4⟩ := row_shape hl
      obtain ⟨A5, c5, hv5⟩ := row_shape ho
      subst hv4 hv5
      obtain ⟨nl, hnl⟩ : ∃ nl, nl = (leftL p all wait).length := ⟨_, rfl⟩
      obtain ⟨no, hno⟩ : ∃ no, no = (outL p all wait).length := ⟨_, rfl⟩
      rw [← hnl] at hl ⊢
      rw [← hno] at ho ⊢
      have HNL := Lib.hid hnl
      have HNO := Lib.hid hno
      obtain ⟨b0, b1, b2, b3, b4, b5, b6, b7⟩ := hBr.cells8
      obtain ⟨g0, g1, g2, g3, g4, g5, g6, g7⟩ := hBr.free8
      obtain ⟨z0, z1, z2, z3, z4, z5, z6, z7⟩ := hZr.cells8
      obtain ⟨f0, f1, f2, f3, f4, f5, f6, f7⟩ := hZr.free8
      clear hnl hno ht hlo hll htk
      cases closed with
      | true =>
        have hT : rTake ⟨lat, room, wait, seen, shown, num, late, true⟩ all = ⟨lat, room, leftL p all wait, seen, shown, num, late, true⟩ := by unfold rTake; rw [HMK.out]; rfl
        have hO : rOut ⟨lat, room, wait, seen, shown, num, late, true⟩ all = outL p all wait := by unfold rOut; rw [HMK.out]
        have HT := Lib.hid hT
        have HOO := Lib.hid hO
        clear hT hO
        go_wp2_with fail
        have Z4 := (hZr.far (p := ⟨w.heap.size, 2, none⟩) (by show _ ≠ w.heap.size; omega) (.slice A4 nl c4)).far (p := ⟨w.heap.size, 7, none⟩) (by show _ ≠ w.heap.size; omega) (.bool true)
        have B8 := Z4.set8 rfl (.int .i64 lat) (.int .i64 room) (.slice A4 nl c4) (.slice A2 seen.length c2) (.slice A3 shown.length c3) (.int .i64 num) (.int .i64 late) (.bool true)
        have F3 : Fr (fun j => w.heap.size ≤ j) w wr := (HF.out.mono (fun _ _ h => h.elim)).trans hfr (fun i hi e => by omega)
        have F4 := (F3.setCell ⟨w.heap.size, 2, none⟩ (fun _ => Nat.le_refl _) (.slice A4 nl c4)).setCell ⟨w.heap.size, 7, none⟩ (fun _ => Nat.le_refl _) (.bool true)
        have F5 := F4.trans B8.2 (fun i hi e => by omega)
        have FE := F5.shut (Nat.le_refl _)
        have G4 : Fr (fun j => j = w.heap.size ∨ j = w.heap.size + 1) wr _ := (((Fr.refl _ wr).setCell ⟨w.heap.size, 2, none⟩ (fun _ => .inl rfl) (.slice A4 nl c4)).setCell ⟨w.heap.size, 7, none⟩ (fun _ => .inl rfl) (.bool true)).trans B8.2 (fun i hi e => .inr e)
        have hlE := row_base (ownsRow_fr hl G4 (fun j hj e => by have := (World.ownsRow.lt hl j hj).1; omega)) (B' := n0) (by omega)
        have hoE := row_base (ownsRow_fr ho G4 (fun j hj e => by have := (World.ownsRow.lt ho j hj).1; omega)) (B' := n0) (by omega)
        have MW := HM.out.frF FE
        refine bodyPost_ret (v := .tuple #[.agg (bCells lat room (.slice A4 nl c4) (.slice A2 seen.length c2) (.slice A3 shown.length c3) num late true), .slice A5 no c5]) (results_row_tmp rfl _ _ (w.heap.size + 1) 54 _ (0, 0) _ rfl B8.1 Try.underlying54 rfl (by kernel_rfl) _ rfl) rfl ⟨_, _, by rw [HT.out], ?_, ?_, FE⟩
        · rw [HT.out]
          refine ⟨?_, MW.seen, MW.shown⟩
          show World.ownsRow _ _ _ _ _ (leftL p all wait).length (iCells (leftL p all wait))
          rw [← HNL.out]
          exact hlE
        · rw [HOO.out, ← HNO.out]
          exact hoE
      | false =>
        have hT : rTake ⟨lat, room, wait, seen, shown, num, late, false⟩ all = ⟨lat, room, leftL p all wait, seen, shown, num, late, all⟩ := by unfold rTake; rw [HMK.out]; rfl
        have hO : rOut ⟨lat, room, wait, seen, shown, num, late, false⟩ all = outL p all wait := by unfold rOut; rw [HMK.out]
        have HT := Lib.hid hT
        have HOO := Lib.hid hO
        clear hT hO
        go_wp2_with fail
        have Z4 := (hZr.far (p := ⟨w.heap.size, 2, none⟩) (by show _ ≠ w.heap.size; omega) (.slice A4 nl c4)).far (p := ⟨w.heap.size, 7, none⟩) (by show _ ≠ w.heap.size; omega) (.bool all)
        have B8 := Z4.set8 rfl (.int .i64 lat) (.int .i64 room) (.slice A4 nl c4) (.slice A2 seen.length c2) (.slice A3 shown.length c3) (.int .i64 num) (.int .i64 late) (.bool all)
        have F3 : Fr (fun j => w.heap.size ≤ j) w wr := (HF.out.mono (fun _ _ h => h.elim)).trans hfr (fun i hi e => by omega)
        have F4 := (F3.setCell ⟨w.heap.size, 2, none⟩ (fun _ => Nat.le_refl _) (.slice A4 nl c4)).setCell ⟨w.heap.size, 7, none⟩ (fun _ => Nat.le_refl _) (.bool all)
        have F5 := F4.trans B8.2 (fun i hi e => by omega)
        have FE := F5.shut (Nat.le_refl _)
        have G4 : Fr (fun j => j = w.heap.size ∨ j = w.heap.size + 1) wr _ := (((Fr.refl _ wr).setCell ⟨w.heap.size, 2, none⟩ (fun _ => .inl rfl) (.slice A4 nl c4)).setCell ⟨w.heap.size, 7, none⟩ (fun _ => .inl rfl) (.bool all)).trans B8.2 (fun i hi e => .inr e)
        have hlE := row_base (ownsRow_fr hl G4 (fun j hj e => by have := (World.ownsRow.lt hl j hj).1; omega)) (B' := n0) (by omega)
        have hoE := row_base (ownsRow_fr ho G4 (fun j hj e => by have := (World.ownsRow.lt ho j hj).1; omega)) (B' := n0) (by omega)
        have MW := HM.out.frF FE
        refine bodyPost_ret (v := .tuple #[.agg (bCells lat room (.slice A4 nl c4) (.slice A2 seen.length c2) (.slice A3 shown.length c3) num late all), .slice A5 no c5]) (results_row_tmp rfl _ _ (w.heap.size + 1) 54 _ (0, 0) _ rfl B8.1 Try.underlying54 rfl (by kernel_rfl) _ rfl) rfl ⟨_, _, by rw [HT.out], ?_, ?_, FE⟩
        · rw [HT.out]
          refine ⟨?_, MW.seen, MW.shown⟩
          show World.ownsRow _ _ _ _ _ (leftL p all wait).length (iCells (leftL p all wait))
          rw [← HNL.out]
          exact hlE
        · rw [HOO.out, ← HNO.out]
          exact hoE

end Go.Proofs.Ytgcmdoinihehcaa
