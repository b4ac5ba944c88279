/- The document's buffer: Push walked. -/
import Derived.Test.YtgcmdoinihehcaaWk
import Derived.Test.YtgcmdoinihehcaaAc
import Derived.Test.YtgcmdoinihehcaaPn
import Derived.Deep.Cut
import Derived.Deep.CutRange
import Derived.WalkKit
import Derived.WalkLawsBesides
import Derived.WalkSpells
import Derived.Deep.QuietTactic
import Derived.BigRegion
import Derived.BigQuiet
import Derived.Lib.Hide
import Derived.Outline
import Derived.Deep.AppendLies
import Derived.Deep.RegionLaw
import Derived.Deep.RegionWith
import Derived.Deep.RegionHeld3
import Derived.Deep.LoopGhost
import Derived.Deep.DeepFit
import Derived.Laws.ResultCell
import Derived.Deep.MidRow
import Derived.StillTailTactics
import Derived.OpenShut
namespace Go.Proofs.Ytgcmdoinihehcaa
set_option linter.unusedVariables false
open Go.RowKit Go

theorem rp_no (r : RB) (t k0 k1 k2 : Int) (h7 : rCode r t ≠ 7) (h0 : rCode r t ≠ 0) : rPush r t k0 k1 k2 = r := by
  unfold rPush
  rw [if_neg h7, if_neg h0]

theorem iCells_snoc (l : List Item) (x : Item) : [] ++ iCells l ++ itemCells x = iCells (l ++ [x]) := by simp [iCells]

set_option maxRecDepth 100000 in
set_option maxHeartbeats 8000000 in
theorem rpush_any (r : RB) (vw vs vc : Value) (n0 : Nat) (t k0 k1 k2 : Int) (w : World) (hn : n0 ≤ w.heap.size) (hm : RMem w n0 r vw vs vc) (hwl : r.wait.length ≤ 1000) (hsl : r.seen.length ≤ 1000) (hcl : r.shown.length ≤ 1000)
    (h0 : 0 ≤ r.lat) (h1 : r.lat ≤ 1152921504606846976) (hin : ∀ x ∈ r.seen ++ r.shown, inst x = true) (hn0 : 0 ≤ r.num) (hn1 : r.num ≤ 1000) (hl0 : 0 ≤ r.late) (hl1 : r.late ≤ 1000) :
    Calls Try.prog 19 #[rAgg r vw vs vc, .int .i64 t, .agg #[.int .i64 k0, .int .i64 k1, .int .i64 k2]] w fun e w' => ∃ vw' vs', e = .returned (.tuple #[rAgg (rPush r t k0 k1 k2) vw' vs' vc, .int .i64 (rCode r t)]) ∧ RMem w' n0 (rPush r t k0 k1 k2) vw' vs' vc ∧ Fr (fun _ => False) w w' := by
  obtain ⟨i3, hi3, hz30, hz31, hz32⟩ := info_parts info_int
  obtain ⟨i7, hi7, hz70, hz71, hz72⟩ := info_parts info73
  have HMK := Lib.hid (fun (w' : World) (hn' : n0 ≤ w'.heap.size) (hm' : RMem w' n0 r vw vs vc) => rmark_any r.lat r.room vw vs vc r.num r.late r.closed n0 r.seen r.shown w' hn' hm'.seen hm'.shown hsl hcl h0 h1 hin)
  obtain ⟨lat, room, wait, seen, shown, num, late, closed⟩ := r
  obtain ⟨A1, c1, hv1⟩ := row_shape hm.wait
  obtain ⟨A2, c2, hv2⟩ := row_shape hm.seen
  obtain ⟨A3, c3, hv3⟩ := row_shape hm.shown
  subst hv1 hv2 hv3
  have hwl : wait.length ≤ 1000 := hwl
  have hsl : seen.length ≤ 1000 := hsl
  have hn0 : 0 ≤ num := hn0
  have hn1 : num ≤ 1000 := hn1
  have hl0 : 0 ≤ late := hl0
  have hl1 : late ≤ 1000 := hl1
  clear h0 h1 hin
  go_enter Try.func19, Try.ntmps19
  go_upto_region 1 with (fail)
  have e1 : (w.alloc (.cells (bCells lat room (.slice A1 wait.length c1) (.slice A2 seen.length c2) (.slice A3 shown.length c3) num late closed) 54)).heap.size = w.heap.size + 1 := by simp
  have e2 : ((w.alloc (.cells (bCells lat room (.slice A1 wait.length c1) (.slice A2 seen.length c2) (.slice A3 shown.length c3) num late closed) 54)).alloc (.cells #[.int .i64 k0, .int .i64 k1, .int .i64 k2] 30)).heap.size = w.heap.size + 2 := by simp
  have hB : Blk (((w.alloc (.cells (bCells lat room (.slice A1 wait.length c1) (.slice A2 seen.length c2) (.slice A3 shown.length c3) num late closed) 54)).alloc (.cells #[.int .i64 k0, .int .i64 k1, .int .i64 k2] 30)).alloc (.cells zB 54)) w.heap.size 54 (bCells lat room (.slice A1 wait.length c1) (.slice A2 seen.length c2) (.slice A3 shown.length c3) num late closed) := ((Blk.new w _ _).alloc _).alloc _
  have hK : Blk (((w.alloc (.cells (bCells lat room (.slice A1 wait.length c1) (.slice A2 seen.length c2) (.slice A3 shown.length c3) num late closed) 54)).alloc (.cells #[.int .i64 k0, .int .i64 k1, .int .i64 k2] 30)).alloc (.cells zB 54)) (w.heap.size + 1) 30 #[.int .i64 k0, .int .i64 k1, .int .i64 k2] := by
    have := (Blk.new (w.alloc (.cells (bCells lat room (.slice A1 wait.length c1) (.slice A2 seen.length c2) (.slice A3 shown.length c3) num late closed) 54)) 30 #[.int .i64 k0, .int .i64 k1, .int .i64 k2]).alloc (.cells zB 54)
    rw [e1] at this
    exact this
  have hZ : Blk (((w.alloc (.cells (bCells lat room (.slice A1 wait.length c1) (.slice A2 seen.length c2) (.slice A3 shown.length c3) num late closed) 54)).alloc (.cells #[.int .i64 k0, .int .i64 k1, .int .i64 k2] 30)).alloc (.cells zB 54)) (w.heap.size + 2) 54 zB := by
    have := Blk.new ((w.alloc (.cells (bCells lat room (.slice A1 wait.length c1) (.slice A2 seen.length c2) (.slice A3 shown.length c3) num late closed) 54)).alloc (.cells #[.int .i64 k0, .int .i64 k1, .int .i64 k2] 30)) 54 zB
    rw [e2] at this
    exact this
  have hf0 : Fr (fun _ => False) w (((w.alloc (.cells (bCells lat room (.slice A1 wait.length c1) (.slice A2 seen.length c2) (.slice A3 shown.length c3) num late closed) 54)).alloc (.cells #[.int .i64 k0, .int .i64 k1, .int .i64 k2] 30)).alloc (.cells zB 54)) := (((Fr.refl _ _).alloc _).alloc _).alloc _
  clear e1 e2
  generalize (((w.alloc (.cells (bCells lat room (.slice A1 wait.length c1) (.slice A2 seen.length c2) (.slice A3 shown.length c3) num late closed) 54)).alloc (.cells #[.int .i64 k0, .int .i64 k1, .int .i64 k2] 30)).alloc (.cells zB 54)) = w0 at *
  have hsz0 := hf0.size
  have HM := Lib.hid hm
  have HP := Lib.hid (HMK.out w0 (by omega) (hm.frF hf0))
  clear hm
  obtain ⟨b0, b1, b2, b3, b4, b5, b6, b7⟩ := hB.cells8
  obtain ⟨g0, g1, g2, g3, g4, g5, g6, g7⟩ := hB.free8
  obtain ⟨z0, z1, z2, z3, z4, z5, z6, z7⟩ := hZ.cells8
  obtain ⟨f0, f1, f2, f3, f4, f5, f6, f7⟩ := hZ.free8
  go_wp2_with fail
  refine HP.out.mono ?_
  rintro e w1 ⟨rfl, hf1⟩
  replace hB := hB.fr hf1 (fun h => h)
  replace hK := hK.fr hf1 (fun h => h)
  replace hZ := hZ.fr hf1 (fun h => h)
  have hf2 : Fr (fun j => w.heap.size ≤ j) w w1 := (hf0.trans' hf1).mono (fun _ _ h => h.elim)
  have hsz1 := hf1.size
  clear b0 b1 b2 b3 b4 b5 b6 b7 g0 g1 g2 g3 g4 g5 g6 g7 z0 z1 z2 z3 z4 z5 z6 z7 f0 f1 f2 f3 f4 f5 f6 f7 HP hf0 hf1 HMK
  obtain ⟨b0, b1, b2, b3, b4, b5, b6, b7⟩ := hB.cells8
  obtain ⟨g0, g1, g2, g3, g4, g5, g6, g7⟩ := hB.free8
  obtain ⟨z0, z1, z2, z3, z4, z5, z6, z7⟩ := hZ.cells8
  obtain ⟨f0, f1, f2, f3, f4, f5, f6, f7⟩ := hZ.free8
  have q0 : w1.cell? ⟨w.heap.size + 1, 0, none⟩ = some (.int .i64 k0) := hK.cell 0
  have q1 : w1.cell? ⟨w.heap.size + 1, 1, none⟩ = some (.int .i64 k1) := hK.cell 1
  have q2 : w1.cell? ⟨w.heap.size + 1, 2, none⟩ = some (.int .i64 k2) := hK.cell 2
  have hBl : w.heap.size < w1.heap.size := hB.lt
  have hKl : w.heap.size + 1 < w1.heap.size := hK.lt
  have hZl : w.heap.size + 2 < w1.heap.size := hZ.lt
  have HF := Lib.hid hf2
  have HB := Lib.hid hB
  have HK := Lib.hid hK
  have HZ := Lib.hid hZ
  clear hf2 hB hK hZ
  have hmk : RB.mark ⟨lat, room, wait, seen, shown, num, late, closed⟩ = markL lat (seen ++ shown) := rfl
  generalize markL lat (seen ++ shown) = p at *
  obtain ⟨m, ok⟩ := p
  have HMK := Lib.hid hmk
  clear hmk
  cases closed with
  | true =>
    have hc : rCode ⟨lat, room, wait, seen, shown, num, late, true⟩ t = 14 := by unfold rCode; rfl
    have HR := Lib.hid (rp_no ⟨lat, room, wait, seen, shown, num, late, true⟩ t k0 k1 k2 (by rw [hc]; decide) (by rw [hc]; decide))
    have HC := Lib.hid hc
    clear hc
    go_wp2_with fail
    have F4 := HF.out
    have Z4 := HZ.out
    have B8 := Z4.set8 rfl (.int .i64 lat) (.int .i64 room) (.slice A1 wait.length c1) (.slice A2 seen.length c2) (.slice A3 shown.length c3) (.int .i64 num) (.int .i64 late) (.bool true)
    have F5 := F4.trans B8.2 (fun i hi e => by omega)
    have FE := F5.shut (Nat.le_refl _)
    refine bodyPost_ret (v := .tuple #[.agg (bCells lat room (.slice A1 wait.length c1) (.slice A2 seen.length c2) (.slice A3 shown.length c3) num late true), .int .i64 14]) (results_row_tmp rfl _ _ (w.heap.size + 2) 54 _ (0, 0) _ rfl B8.1 Try.underlying54 rfl (by kernel_rfl) _ rfl) rfl ⟨_, _, by rw [HC.out, HR.out], ?_, FE⟩
    rw [HR.out]
    exact ⟨(HM.out.frF FE).wait, (HM.out.frF FE).seen, (HM.out.frF FE).shown⟩
  | false =>
    go_wp2_with fail
    refine (rinst_any t w1).mono ?_
    rintro e wx ⟨rfl, rfl⟩
    cases hi : inst t with
    | false =>
      have hc : rCode ⟨lat, room, wait, seen, shown, num, late, false⟩ t = 2 := by unfold rCode; rw [hi]; rfl
      have HR := Lib.hid (rp_no ⟨lat, room, wait, seen, shown, num, late, false⟩ t k0 k1 k2 (by rw [hc]; decide) (by rw [hc]; decide))
      have HC := Lib.hid hc
      clear hc hi
      go_wp2_with fail
      have F4 := HF.out
      have Z4 := HZ.out
      have B8 := Z4.set8 rfl (.int .i64 lat) (.int .i64 room) (.slice A1 wait.length c1) (.slice A2 seen.length c2) (.slice A3 shown.length c3) (.int .i64 num) (.int .i64 late) (.bool false)
      have F5 := F4.trans B8.2 (fun i hi e => by omega)
      have FE := F5.shut (Nat.le_refl _)
      refine bodyPost_ret (v := .tuple #[.agg (bCells lat room (.slice A1 wait.length c1) (.slice A2 seen.length c2) (.slice A3 shown.length c3) num late false), .int .i64 2]) (results_row_tmp rfl _ _ (w.heap.size + 2) 54 _ (0, 0) _ rfl B8.1 Try.underlying54 rfl (by kernel_rfl) _ rfl) rfl ⟨_, _, by rw [HC.out, HR.out], ?_, FE⟩
      rw [HR.out]
      exact ⟨(HM.out.frF FE).wait, (HM.out.frF FE).seen, (HM.out.frF FE).shown⟩
    | true =>
      have HI := Lib.hid hi
      clear hi
      by_cases hlate : ok = true ∧ t < m
      · obtain ⟨rfl, hlt⟩ := hlate
        have hc : rCode ⟨lat, room, wait, seen, shown, num, late, false⟩ t = 7 := by
          unfold rCode
          rw [HI.out, HMK.out, if_neg (by simp), if_neg (by simp), if_pos ⟨rfl, hlt⟩]
        have hr : rPush ⟨lat, room, wait, seen, shown, num, late, false⟩ t k0 k1 k2 = ⟨lat, room, wait, seen, shown, num, late + 1, false⟩ := by unfold rPush; rw [if_pos hc]
        have HR := Lib.hid hr
        have HC := Lib.hid hc
        clear hc hr
        have hd : decide (t < m) = true := decide_eq_true hlt
        go_wp2_with fail
        have F4 := HF.out.setCell ⟨w.heap.size, 6, none⟩ (fun _ => Nat.le_refl _) (.int .i64 (late + 1))
        have Z4 := HZ.out.far (p := ⟨w.heap.size, 6, none⟩) (by show _ ≠ w.heap.size; omega) (.int .i64 (late + 1))
        have B8 := Z4.set8 rfl (.int .i64 lat) (.int .i64 room) (.slice A1 wait.length c1) (.slice A2 seen.length c2) (.slice A3 shown.length c3) (.int .i64 num) (.int .i64 (late + 1)) (.bool false)
        have F5 := F4.trans B8.2 (fun i hi e => by omega)
        have FE := F5.shut (Nat.le_refl _)
        refine bodyPost_ret (v := .tuple #[.agg (bCells lat room (.slice A1 wait.length c1) (.slice A2 seen.length c2) (.slice A3 shown.length c3) num (late + 1) false), .int .i64 7]) (results_row_tmp rfl _ _ (w.heap.size + 2) 54 _ (0, 0) _ rfl B8.1 Try.underlying54 rfl (by kernel_rfl) _ rfl) rfl ⟨_, _, by rw [HC.out, HR.out], ?_, FE⟩
        rw [HR.out]
        exact ⟨(HM.out.frF FE).wait, (HM.out.frF FE).seen, (HM.out.frF FE).shown⟩
      · have HL := Lib.hid hlate
        cases ok with
        | false =>
          clear hlate
          by_cases hfull : room ≤ (wait.length : Int)
          · have hfz := hfull
            have hc : rCode ⟨lat, room, wait, seen, shown, num, late, false⟩ t = 6 := by
              unfold rCode
              rw [HI.out, HMK.out, if_neg (by simp), if_neg (by simp), if_neg HL.out, if_pos hfull]
            have HR := Lib.hid (rp_no ⟨lat, room, wait, seen, shown, num, late, false⟩ t k0 k1 k2 (by rw [hc]; decide) (by rw [hc]; decide))
            have HC := Lib.hid hc
            clear hc
            go_wp2_with fail
            have F4 := HF.out
            have Z4 := HZ.out
            have B8 := Z4.set8 rfl (.int .i64 lat) (.int .i64 room) (.slice A1 wait.length c1) (.slice A2 seen.length c2) (.slice A3 shown.length c3) (.int .i64 num) (.int .i64 late) (.bool false)
            have F5 := F4.trans B8.2 (fun i hi e => by omega)
            have FE := F5.shut (Nat.le_refl _)
            refine bodyPost_ret (v := .tuple #[.agg (bCells lat room (.slice A1 wait.length c1) (.slice A2 seen.length c2) (.slice A3 shown.length c3) num late false), .int .i64 6]) (results_row_tmp rfl _ _ (w.heap.size + 2) 54 _ (0, 0) _ rfl B8.1 Try.underlying54 rfl (by kernel_rfl) _ rfl) rfl ⟨_, _, by rw [HC.out, HR.out], ?_, FE⟩
            rw [HR.out]
            exact ⟨(HM.out.frF FE).wait, (HM.out.frF FE).seen, (HM.out.frF FE).shown⟩
          · skip
            have hfn : (wait.length : Int) < room := by omega
            have hc : rCode ⟨lat, room, wait, seen, shown, num, late, false⟩ t = 0 := by
              unfold rCode
              rw [HI.out, HMK.out, if_neg (by simp), if_neg (by simp), if_neg HL.out, if_neg (by show ¬ room ≤ (wait.length : Int); omega)]
            have hr : rPush ⟨lat, room, wait, seen, shown, num, late, false⟩ t k0 k1 k2 = ⟨lat, room, wait ++ [⟨t, num, k0, k1, k2⟩], seen ++ [t], shown, num + 1, late, false⟩ := by unfold rPush; rw [if_neg (by rw [hc]; decide), if_pos hc]
            have HR := Lib.hid hr
            have HC := Lib.hid hc
            clear hc hr
            obtain ⟨nw, hnw⟩ : ∃ nw, nw = wait.length := ⟨_, rfl⟩
            obtain ⟨ns, hns⟩ : ∃ ns, ns = seen.length := ⟨_, rfl⟩
            have hw1 := ownsRow_fr HM.out.wait HF.out (fun j hj e => by have := (World.ownsRow.lt HM.out.wait j hj).2; omega)
            have hs1 := ownsRow_fr HM.out.seen HF.out (fun j hj e => by have := (World.ownsRow.lt HM.out.seen j hj).2; omega)
            simp only at hw1 hs1
            have hn2 : n0 ≤ w1.heap.size := by omega
            go_upto_region 11 with (fail)
            go_cut [] from 44 to 55 (fun wx => ∃ A4 c4, Blk wx w.heap.size 54 (bCells lat room (.slice A4 (wait.length + 1) c4) (.slice A2 seen.length c2) (.slice A3 shown.length c3) num late false) ∧ Blk wx (w.heap.size + 2) 54 zB ∧ wx.ownsRow w1.heap.size 73 5 (.slice A4 (wait.length + 1) c4) (wait.length + 1) (iCells (wait ++ [⟨t, num, k0, k1, k2⟩])) ∧ Fr (fun j => w.heap.size ≤ j) w wx ∧ Fr (fun j => w1.heap.size ≤ j ∨ j = w.heap.size) w1 wx)
            case first =>
              have hlA := World.ownsRow_lit (base := w1.heap.size) (size := 5) (e := 73) w1 #[] 0 (Nat.le_refl _) (by decide) rfl
              have hA2 := World.ownsRow_lit (base := w1.heap.size) (size := 5) (e := 73) (w1.alloc (.cells #[.int .i64 t, .int .i64 num, .int .i64 k0, .int .i64 k1, .int .i64 k2] 73)) #[] 0 (by simp) (by decide) rfl
              have eA2 : (w1.alloc (.cells #[.int .i64 t, .int .i64 num, .int .i64 k0, .int .i64 k1, .int .i64 k2] 73)).heap.size = w1.heap.size + 1 := by simp
              rw [eA2] at hA2
              have hC2 := World.ownsRow_lit (base := 0) (size := 5) (e := 73) (w1.alloc (.cells #[] 73)) #[.int .i64 t, .int .i64 num, .int .i64 k0, .int .i64 k1, .int .i64 k2] 1 (Nat.zero_le _) (by decide) rfl
              have eC2 : (w1.alloc (.cells #[] 73)).heap.size = w1.heap.size + 1 := by simp
              rw [eC2] at hC2
              clear eA2 eC2
              refine wp_region_noPanic ?_
              refine wp_region_held_drew (S := (fun w' => w'.cell? ⟨w.heap.size, 5, none⟩ = some (.int .i64 num) ∧ w'.cell? ⟨w.heap.size + 1, 0, none⟩ = some (.int .i64 k0) ∧ w'.cell? ⟨w.heap.size + 1, 1, none⟩ = some (.int .i64 k1) ∧ w'.cell? ⟨w.heap.size + 1, 2, none⟩ = some (.int .i64 k2))) (by kernel_rfl) ?_ (fun hHeld => ?_)
              · try dsimp only
                first | exact S3 | exact S2 | exact S1 | go_keep
              refine wpAnyH_take (i := 1) (oi := _) (v := ?_) (by simp only [List.getElem?_toArray, List.getElem?_cons_zero, List.getElem?_cons_succ]; rfl) (by kernel_rfl) (by kernel_rfl) (by kernel_rfl) (fun _ _ _ h => h) (Or.inl ⟨by rfl, ?_⟩) (by assumption) ?_
              rotate_left
              · intro w hSw
                try dsimp only at hSw
                go_simp
                all_goals (with_reducible rfl)
              try simp only [Act.put, List.setIfInBounds_toArray, List.set_cons_zero, List.set_cons_succ]
              refine wpAnyH_take (i := 4) (oi := _) (v := ?_) (by simp only [List.getElem?_toArray, List.getElem?_cons_zero, List.getElem?_cons_succ]; rfl) (by kernel_rfl) (by kernel_rfl) (by kernel_rfl) (fun _ _ _ h => h) (Or.inl ⟨by rfl, ?_⟩) (by assumption) ?_
              rotate_left
              · intro w hSw
                try dsimp only at hSw
                go_simp
                all_goals (with_reducible rfl)
              try simp only [Act.put, List.setIfInBounds_toArray, List.set_cons_zero, List.set_cons_succ]
              refine wpAnyH_take (i := 5) (oi := _) (v := ?_) (by simp only [List.getElem?_toArray, List.getElem?_cons_zero, List.getElem?_cons_succ]; rfl) (by kernel_rfl) (by kernel_rfl) (by kernel_rfl) (fun _ _ _ h => h) (Or.inl ⟨by rfl, ?_⟩) (by assumption) ?_
              rotate_left
              · intro w hSw
                try dsimp only at hSw
                go_simp
                all_goals (with_reducible rfl)
              try simp only [Act.put, List.setIfInBounds_toArray, List.set_cons_zero, List.set_cons_succ]
              refine wpAnyH_take (i := 6) (oi := _) (v := ?_) (by simp only [List.getElem?_toArray, List.getElem?_cons_zero, List.getElem?_cons_succ]; rfl) (by kernel_rfl) (by kernel_rfl) (by kernel_rfl) (fun _ _ _ h => h) (Or.inl ⟨by rfl, ?_⟩) (by assumption) ?_
              rotate_left
              · intro w hSw
                try dsimp only at hSw
                go_simp
                all_goals (with_reducible rfl)
              try simp only [Act.put, List.setIfInBounds_toArray, List.set_cons_zero, List.set_cons_succ]
              refine wpAnyH_take (i := 7) (oi := _) (v := ?_) (by simp only [List.getElem?_toArray, List.getElem?_cons_zero, List.getElem?_cons_succ]; rfl) (by kernel_rfl) (by kernel_rfl) (by kernel_rfl) (fun _ _ _ h => h) (Or.inl ⟨by rfl, ?_⟩) (by assumption) ?_
              rotate_left
              · intro w hSw
                try dsimp only at hSw
                go_simp
                all_goals (with_reducible rfl)
              try simp only [Act.put, List.setIfInBounds_toArray, List.set_cons_zero, List.set_cons_succ]
              refine wpAnyH_take (i := 8) (oi := _) (v := ?_) (by simp only [List.getElem?_toArray, List.getElem?_cons_zero, List.getElem?_cons_succ]; rfl) (by kernel_rfl) (by kernel_rfl) (by kernel_rfl) (fun _ _ _ h => h) (Or.inl ⟨by rfl, ?_⟩) (by assumption) ?_
              rotate_left
              · intro w hSw
                try dsimp only at hSw
                go_simp
                all_goals (with_reducible rfl)
              try simp only [Act.put, List.setIfInBounds_toArray, List.set_cons_zero, List.set_cons_succ]
              refine wpAnyH_ready (rs := [0, 2, 9]) (by kernel_rfl) (by simp) ?_
              refine AllReadyH.cons (o := _) (by simp only [List.getElem?_toArray, List.getElem?_cons_zero]; rfl) (fun K hK => ?_) ?_
              · skip
                go_simp
                refine hK.out _ _ ?_ (fun hHeld => ?_)
                · try dsimp only
                  first | exact S3 | exact S2 | exact S1 | go_keep
                clear hK K
                try simp only [Act.put, List.setIfInBounds_toArray, List.set_cons_zero, List.set_cons_succ]
                refine wpAnyH_ready (rs := [2, 9]) (by kernel_rfl) (by simp) ?_
                refine AllReadyH.cons (o := _) (by simp only [List.getElem?_toArray, List.getElem?_cons_zero, List.getElem?_cons_succ]; rfl) (fun K hK => ?_) ?_
                · skip
                  go_simp
                  refine hK.out _ _ ?_ (fun hHeld => ?_)
                  · try dsimp only
                    first | exact S3 | exact S2 | exact S1 | go_keep
                  clear hK K
                  try simp only [Act.put, List.setIfInBounds_toArray, List.set_cons_zero, List.set_cons_succ]
                  refine wpAnyH_ready (rs := [3, 9]) (by kernel_rfl) (by simp) ?_
                  refine AllReadyH.cons (o := _) (by simp only [List.getElem?_toArray, List.getElem?_cons_zero, List.getElem?_cons_succ]; rfl) (fun K hK => ?_) ?_
                  · skip
                    refine step_append_rows rfl _ _ 52 (by rfl) w1.heap.size 73 i7 _ 5 40 Try.underlying52 hi7 hz70 hz71 hz72 rfl (by decide) _ 0 [] (by rfl) (by first | exact hlA | exact hlA.alloc _ | exact hA2) n0 (.slice A1 wait.length c1) wait.length (iCells wait) (by rfl) (by first | exact hw1.alloc _ | exact (hw1.alloc _).alloc _) (iCells_one wait) (by unfold maxLen; omega) (by omega) (by first | (simp; done) | (simp; omega)) ?_
                    intro v1 w2 hown1 hgr1 hat1
                    have F1 : Fr (fun j => w1.heap.size ≤ j) w1 w2 := (by first | exact ((((Fr.refl _ w1).alloc _)).drew).trans (Fr.of_grown hgr1) (fun i _ e => by (have e2 := Option.some.inj e); (try simp at e2); omega) | exact (((((Fr.refl _ w1).alloc _)).alloc _).drew).trans (Fr.of_grown hgr1) (fun i _ e => by (have e2 := Option.some.inj e); (try simp at e2); omega))
                    have hsz2 := F1.size
                    have hB2 := HB.out.fr F1 (by omega)
                    have hK2 := HK.out.fr F1 (by omega)
                    have hBl2 := hB2.lt
                    have hKl2 := hK2.lt
                    have S1 : w2.cell? ⟨w.heap.size, 5, none⟩ = some (.int .i64 num) ∧ w2.cell? ⟨w.heap.size + 1, 0, none⟩ = some (.int .i64 k0) ∧ w2.cell? ⟨w.heap.size + 1, 1, none⟩ = some (.int .i64 k1) ∧ w2.cell? ⟨w.heap.size + 1, 2, none⟩ = some (.int .i64 k2) := ⟨hB2.cell 5, hK2.cell 0, hK2.cell 1, hK2.cell 2⟩
                    refine hK.out _ _ ?_ (fun hHeld => ?_)
                    · try dsimp only
                      first | exact S3 | exact S2 | exact S1 | go_keep
                    clear hK K
                    try simp only [Act.put, List.setIfInBounds_toArray, List.set_cons_zero, List.set_cons_succ]
                    refine wpAnyH_ready (rs := [9]) (by kernel_rfl) (by simp) ?_
                    refine AllReadyH.cons (o := _) (by simp only [List.getElem?_toArray, List.getElem?_cons_zero, List.getElem?_cons_succ]; rfl) (fun K hK => ?_) ?_
                    · skip
                      go_simp
                      refine hK.out _ _ ?_ (fun hHeld => ?_)
                      · try dsimp only
                        first | exact S3 | exact S2 | exact S1 | go_keep
                      clear hK K
                      try simp only [Act.put, List.setIfInBounds_toArray, List.set_cons_zero, List.set_cons_succ]
                      refine wpAnyH_ready (rs := [10]) (by kernel_rfl) (by simp) ?_
                      refine AllReadyH.cons (o := _) (by simp only [List.getElem?_toArray, List.getElem?_cons_zero, List.getElem?_cons_succ]; rfl) (fun K hK => ?_) ?_
                      · skip
                        refine step_append_rows rfl _ _ 52 (by rfl) w1.heap.size 73 i7 _ 5 40 Try.underlying52 hi7 hz70 hz71 hz72 rfl (by decide) v1 _ _ (by rfl) (by first | exact hown1.alloc _ | exact hown1) 0 _ 1 (itemCells ⟨t, num, k0, k1, k2⟩) (by rfl) (by first | exact World.ownsRow_lit (base := 0) (size := 5) (e := 73) w2 #[.int .i64 t, .int .i64 num, .int .i64 k0, .int .i64 k1, .int .i64 k2] 1 (Nat.zero_le _) (by decide) rfl | exact ownsRow_fr hC2.drew (Fr.of_grown hgr1) (fun k hk e => by (have e1 := Option.some.inj hk); (have e2 := Option.some.inj e); (try simp at e1); (try simp at e2); omega) | exact ownsRow_fr ((World.ownsRow_lit (base := 0) (size := 5) (e := 73) w1 #[.int .i64 t, .int .i64 num, .int .i64 k0, .int .i64 k1, .int .i64 k2] 1 (Nat.zero_le _) (by decide) rfl).alloc _).drew (Fr.of_grown hgr1) (fun k hk e => by (have e1 := Option.some.inj hk); (have e2 := Option.some.inj e); (try simp at e1); (try simp at e2); omega)) (itemCells_one _) (by unfold maxLen; omega) (by omega) (by first | omega | (simp; omega)) ?_
                        intro v2 w3 hown2 hgr2 hat2
                        rw [Nat.zero_add] at hown2
                        have F2 : Fr (fun j => w1.heap.size ≤ j) w1 w3 := (by first | exact F1.trans (Fr.of_grown hgr2) (fun i _ e => (World.ownsRow.lt hown1 i e).1) | exact (F1.alloc _).trans (Fr.of_grown hgr2) (fun i _ e => (World.ownsRow.lt hown1 i e).1))
                        have hB3 := HB.out.fr F2 (by omega)
                        have hZ3 := HZ.out.fr F2 (by omega)
                        have hK3 := HK.out.fr F2 (by omega)
                        have S2 : w3.cell? ⟨w.heap.size, 5, none⟩ = some (.int .i64 num) ∧ w3.cell? ⟨w.heap.size + 1, 0, none⟩ = some (.int .i64 k0) ∧ w3.cell? ⟨w.heap.size + 1, 1, none⟩ = some (.int .i64 k1) ∧ w3.cell? ⟨w.heap.size + 1, 2, none⟩ = some (.int .i64 k2) := ⟨hB3.cell 5, hK3.cell 0, hK3.cell 1, hK3.cell 2⟩
                        obtain ⟨A4, c4, hv4⟩ := row_shape hown2
                        subst hv4
                        have y2 := hB3.cell 2
                        have g2 := hB3.frozen 2
                        simp only [List.getElem?_toArray, List.getElem?_cons_zero, List.getElem?_cons_succ] at y2
                        have hK4 := hK3.far (p := ⟨w.heap.size, 2, none⟩) (by show _ ≠ w.heap.size; omega) (.slice A4 (wait.length + 1) c4)
                        have hB4 := hB3.set_ 2 (.slice A4 (wait.length + 1) c4)
                        have S3 : (w3.setCell ⟨w.heap.size, 2, none⟩ (.slice A4 (wait.length + 1) c4)).cell? ⟨w.heap.size, 5, none⟩ = some (.int .i64 num) ∧ (w3.setCell ⟨w.heap.size, 2, none⟩ (.slice A4 (wait.length + 1) c4)).cell? ⟨w.heap.size + 1, 0, none⟩ = some (.int .i64 k0) ∧ (w3.setCell ⟨w.heap.size, 2, none⟩ (.slice A4 (wait.length + 1) c4)).cell? ⟨w.heap.size + 1, 1, none⟩ = some (.int .i64 k1) ∧ (w3.setCell ⟨w.heap.size, 2, none⟩ (.slice A4 (wait.length + 1) c4)).cell? ⟨w.heap.size + 1, 2, none⟩ = some (.int .i64 k2) := ⟨hB4.cell 5, hK4.cell 0, hK4.cell 1, hK4.cell 2⟩
                        refine hK.out _ _ ?_ (fun hHeld => ?_)
                        · try dsimp only
                          first | exact S3 | exact S2 | exact S1 | go_keep
                        clear hK K
                        try simp only [Act.put, List.setIfInBounds_toArray, List.set_cons_zero, List.set_cons_succ]
                        refine wpAnyH_take (i := 11) (oi := _) (v := ?_) (by simp only [List.getElem?_toArray, List.getElem?_cons_zero, List.getElem?_cons_succ]; rfl) (by kernel_rfl) (by kernel_rfl) (by kernel_rfl) (fun _ _ _ h => h) (Or.inl ⟨by rfl, ?_⟩) (by assumption) ?_
                        rotate_left
                        · intro w hSw
                          try dsimp only at hSw
                          go_simp
                          all_goals (with_reducible rfl)
                        try simp only [Act.put, List.setIfInBounds_toArray, List.set_cons_zero, List.set_cons_succ]
                        refine wpAnyH_ready (rs := [12]) (by kernel_rfl) (by simp) ?_
                        refine AllReadyH.cons (o := _) (by simp only [List.getElem?_toArray, List.getElem?_cons_zero, List.getElem?_cons_succ]; rfl) (fun K hK => ?_) ?_
                        · skip
                          go_simp
                          refine hK.out _ _ ?_ (fun hHeld => ?_)
                          · try dsimp only
                            first | exact S3 | exact S2 | exact S1 | go_keep
                          clear hK K
                          try simp only [Act.put, List.setIfInBounds_toArray, List.set_cons_zero, List.set_cons_succ]
                          refine wpAnyH_done (by kernel_rfl) ?_ _
                          refine NoPanic.normal ?_
                          go_wp2_with fail
                          go_meet
                          exact ⟨A4, c4, hB4, hZ3.far (p := ⟨w.heap.size, 2, none⟩) (by show _ ≠ w.heap.size; omega) _, ownsRow_fr (by rw [iCells_snoc] at hown2; exact hown2) ((Fr.refl (fun j => j = w.heap.size) w3).setCell ⟨w.heap.size, 2, none⟩ (fun _ => rfl) _) (fun j hj e => by have := (World.ownsRow.lt hown2 j hj).1; omega), (HF.out.trans F2 (fun i hi e => by omega)).setCell ⟨w.heap.size, 2, none⟩ (fun _ => Nat.le_refl _) _, (F2.mono (fun _ _ h => .inl h)).setCell ⟨w.heap.size, 2, none⟩ (fun _ => .inr rfl) _⟩
                        exact AllReadyH.nil
                      exact AllReadyH.nil
                    exact AllReadyH.nil
                  refine AllReadyH.cons (o := _) (by simp only [List.getElem?_toArray, List.getElem?_cons_zero, List.getElem?_cons_succ]; rfl) (fun K hK => ?_) ?_
                  · skip
                    go_simp
                    refine hK.out _ _ ?_ (fun hHeld => ?_)
                    · try dsimp only
                      first | exact S3 | exact S2 | exact S1 | go_keep
                    clear hK K
                    try simp only [Act.put, List.setIfInBounds_toArray, List.set_cons_zero, List.set_cons_succ]
                    refine wpAnyH_ready (rs := [3]) (by kernel_rfl) (by simp) ?_
                    refine AllReadyH.cons (o := _) (by simp only [List.getElem?_toArray, List.getElem?_cons_zero, List.getElem?_cons_succ]; rfl) (fun K hK => ?_) ?_
                    · skip
                      refine step_append_rows rfl _ _ 52 (by rfl) w1.heap.size 73 i7 _ 5 40 Try.underlying52 hi7 hz70 hz71 hz72 rfl (by decide) _ 0 [] (by rfl) (by first | exact hlA | exact hlA.alloc _ | exact hA2) n0 (.slice A1 wait.length c1) wait.length (iCells wait) (by rfl) (by first | exact hw1.alloc _ | exact (hw1.alloc _).alloc _) (iCells_one wait) (by unfold maxLen; omega) (by omega) (by first | (simp; done) | (simp; omega)) ?_
                      intro v1 w2 hown1 hgr1 hat1
                      have F1 : Fr (fun j => w1.heap.size ≤ j) w1 w2 := (by first | exact ((((Fr.refl _ w1).alloc _)).drew).trans (Fr.of_grown hgr1) (fun i _ e => by (have e2 := Option.some.inj e); (try simp at e2); omega) | exact (((((Fr.refl _ w1).alloc _)).alloc _).drew).trans (Fr.of_grown hgr1) (fun i _ e => by (have e2 := Option.some.inj e); (try simp at e2); omega))
                      have hsz2 := F1.size
                      have hB2 := HB.out.fr F1 (by omega)
                      have hK2 := HK.out.fr F1 (by omega)
                      have hBl2 := hB2.lt
                      have hKl2 := hK2.lt
                      have S1 : w2.cell? ⟨w.heap.size, 5, none⟩ = some (.int .i64 num) ∧ w2.cell? ⟨w.heap.size + 1, 0, none⟩ = some (.int .i64 k0) ∧ w2.cell? ⟨w.heap.size + 1, 1, none⟩ = some (.int .i64 k1) ∧ w2.cell? ⟨w.heap.size + 1, 2, none⟩ = some (.int .i64 k2) := ⟨hB2.cell 5, hK2.cell 0, hK2.cell 1, hK2.cell 2⟩
                      refine hK.out _ _ ?_ (fun hHeld => ?_)
                      · try dsimp only
                        first | exact S3 | exact S2 | exact S1 | go_keep
                      clear hK K
                      try simp only [Act.put, List.setIfInBounds_toArray, List.set_cons_zero, List.set_cons_succ]
                      refine wpAnyH_ready (rs := [10]) (by kernel_rfl) (by simp) ?_
                      refine AllReadyH.cons (o := _) (by simp only [List.getElem?_toArray, List.getElem?_cons_zero, List.getElem?_cons_succ]; rfl) (fun K hK => ?_) ?_
                      · skip
                        refine step_append_rows rfl _ _ 52 (by rfl) w1.heap.size 73 i7 _ 5 40 Try.underlying52 hi7 hz70 hz71 hz72 rfl (by decide) v1 _ _ (by rfl) (by first | exact hown1.alloc _ | exact hown1) 0 _ 1 (itemCells ⟨t, num, k0, k1, k2⟩) (by rfl) (by first | exact World.ownsRow_lit (base := 0) (size := 5) (e := 73) w2 #[.int .i64 t, .int .i64 num, .int .i64 k0, .int .i64 k1, .int .i64 k2] 1 (Nat.zero_le _) (by decide) rfl | exact ownsRow_fr hC2.drew (Fr.of_grown hgr1) (fun k hk e => by (have e1 := Option.some.inj hk); (have e2 := Option.some.inj e); (try simp at e1); (try simp at e2); omega) | exact ownsRow_fr ((World.ownsRow_lit (base := 0) (size := 5) (e := 73) w1 #[.int .i64 t, .int .i64 num, .int .i64 k0, .int .i64 k1, .int .i64 k2] 1 (Nat.zero_le _) (by decide) rfl).alloc _).drew (Fr.of_grown hgr1) (fun k hk e => by (have e1 := Option.some.inj hk); (have e2 := Option.some.inj e); (try simp at e1); (try simp at e2); omega)) (itemCells_one _) (by unfold maxLen; omega) (by omega) (by first | omega | (simp; omega)) ?_
                        intro v2 w3 hown2 hgr2 hat2
                        rw [Nat.zero_add] at hown2
                        have F2 : Fr (fun j => w1.heap.size ≤ j) w1 w3 := (by first | exact F1.trans (Fr.of_grown hgr2) (fun i _ e => (World.ownsRow.lt hown1 i e).1) | exact (F1.alloc _).trans (Fr.of_grown hgr2) (fun i _ e => (World.ownsRow.lt hown1 i e).1))
                        have hB3 := HB.out.fr F2 (by omega)
                        have hZ3 := HZ.out.fr F2 (by omega)
                        have hK3 := HK.out.fr F2 (by omega)
                        have S2 : w3.cell? ⟨w.heap.size, 5, none⟩ = some (.int .i64 num) ∧ w3.cell? ⟨w.heap.size + 1, 0, none⟩ = some (.int .i64 k0) ∧ w3.cell? ⟨w.heap.size + 1, 1, none⟩ = some (.int .i64 k1) ∧ w3.cell? ⟨w.heap.size + 1, 2, none⟩ = some (.int .i64 k2) := ⟨hB3.cell 5, hK3.cell 0, hK3.cell 1, hK3.cell 2⟩
                        obtain ⟨A4, c4, hv4⟩ := row_shape hown2
                        subst hv4
                        have y2 := hB3.cell 2
                        have g2 := hB3.frozen 2
                        simp only [List.getElem?_toArray, List.getElem?_cons_zero, List.getElem?_cons_succ] at y2
                        have hK4 := hK3.far (p := ⟨w.heap.size, 2, none⟩) (by show _ ≠ w.heap.size; omega) (.slice A4 (wait.length + 1) c4)
                        have hB4 := hB3.set_ 2 (.slice A4 (wait.length + 1) c4)
                        have S3 : (w3.setCell ⟨w.heap.size, 2, none⟩ (.slice A4 (wait.length + 1) c4)).cell? ⟨w.heap.size, 5, none⟩ = some (.int .i64 num) ∧ (w3.setCell ⟨w.heap.size, 2, none⟩ (.slice A4 (wait.length + 1) c4)).cell? ⟨w.heap.size + 1, 0, none⟩ = some (.int .i64 k0) ∧ (w3.setCell ⟨w.heap.size, 2, none⟩ (.slice A4 (wait.length + 1) c4)).cell? ⟨w.heap.size + 1, 1, none⟩ = some (.int .i64 k1) ∧ (w3.setCell ⟨w.heap.size, 2, none⟩ (.slice A4 (wait.length + 1) c4)).cell? ⟨w.heap.size + 1, 2, none⟩ = some (.int .i64 k2) := ⟨hB4.cell 5, hK4.cell 0, hK4.cell 1, hK4.cell 2⟩
                        refine hK.out _ _ ?_ (fun hHeld => ?_)
                        · try dsimp only
                          first | exact S3 | exact S2 | exact S1 | go_keep
                        clear hK K
                        try simp only [Act.put, List.setIfInBounds_toArray, List.set_cons_zero, List.set_cons_succ]
                        refine wpAnyH_take (i := 11) (oi := _) (v := ?_) (by simp only [List.getElem?_toArray, List.getElem?_cons_zero, List.getElem?_cons_succ]; rfl) (by kernel_rfl) (by kernel_rfl) (by kernel_rfl) (fun _ _ _ h => h) (Or.inl ⟨by rfl, ?_⟩) (by assumption) ?_
                        rotate_left
                        · intro w hSw
                          try dsimp only at hSw
                          go_simp
                          all_goals (with_reducible rfl)
                        try simp only [Act.put, List.setIfInBounds_toArray, List.set_cons_zero, List.set_cons_succ]
                        refine wpAnyH_ready (rs := [12]) (by kernel_rfl) (by simp) ?_
                        refine AllReadyH.cons (o := _) (by simp only [List.getElem?_toArray, List.getElem?_cons_zero, List.getElem?_cons_succ]; rfl) (fun K hK => ?_) ?_
                        · skip
                          go_simp
                          refine hK.out _ _ ?_ (fun hHeld => ?_)
                          · try dsimp only
                            first | exact S3 | exact S2 | exact S1 | go_keep
                          clear hK K
                          try simp only [Act.put, List.setIfInBounds_toArray, List.set_cons_zero, List.set_cons_succ]
                          refine wpAnyH_done (by kernel_rfl) ?_ _
                          refine NoPanic.normal ?_
                          go_wp2_with fail
                          go_meet
                          exact ⟨A4, c4, hB4, hZ3.far (p := ⟨w.heap.size, 2, none⟩) (by show _ ≠ w.heap.size; omega) _, ownsRow_fr (by rw [iCells_snoc] at hown2; exact hown2) ((Fr.refl (fun j => j = w.heap.size) w3).setCell ⟨w.heap.size, 2, none⟩ (fun _ => rfl) _) (fun j hj e => by have := (World.ownsRow.lt hown2 j hj).1; omega), (HF.out.trans F2 (fun i hi e => by omega)).setCell ⟨w.heap.size, 2, none⟩ (fun _ => Nat.le_refl _) _, (F2.mono (fun _ _ h => .inl h)).setCell ⟨w.heap.size, 2, none⟩ (fun _ => .inr rfl) _⟩
                        exact AllReadyH.nil
                      exact AllReadyH.nil
                    exact AllReadyH.nil
                  exact AllReadyH.nil
                refine AllReadyH.cons (o := _) (by simp only [List.getElem?_toArray, List.getElem?_cons_zero, List.getElem?_cons_succ]; rfl) (fun K hK => ?_) ?_
                · skip
                  go_simp
                  refine hK.out _ _ ?_ (fun hHeld => ?_)
                  · try dsimp only
                    first | exact S3 | exact S2 | exact S1 | go_keep
                  clear hK K
                  try simp only [Act.put, List.setIfInBounds_toArray, List.set_cons_zero, List.set_cons_succ]
                  refine wpAnyH_ready (rs := [2]) (by kernel_rfl) (by simp) ?_
                  refine AllReadyH.cons (o := _) (by simp only [List.getElem?_toArray, List.getElem?_cons_zero, List.getElem?_cons_succ]; rfl) (fun K hK => ?_) ?_
                  · skip
                    go_simp
                    refine hK.out _ _ ?_ (fun hHeld => ?_)
                    · try dsimp only
                      first | exact S3 | exact S2 | exact S1 | go_keep
                    clear hK K
                    try simp only [Act.put, List.setIfInBounds_toArray, List.set_cons_zero, List.set_cons_succ]
                    refine wpAnyH_ready (rs := [3]) (by kernel_rfl) (by simp) ?_
                    refine AllReadyH.cons (o := _) (by simp only [List.getElem?_toArray, List.getElem?_cons_zero, List.getElem?_cons_succ]; rfl) (fun K hK => ?_) ?_
                    · skip
                      refine step_append_rows rfl _ _ 52 (by rfl) w1.heap.size 73 i7 _ 5 40 Try.underlying52 hi7 hz70 hz71 hz72 rfl (by decide) _ 0 [] (by rfl) (by first | exact hlA | exact hlA.alloc _ | exact hA2) n0 (.slice A1 wait.length c1) wait.length (iCells wait) (by rfl) (by first | exact hw1.alloc _ | exact (hw1.alloc _).alloc _) (iCells_one wait) (by unfold maxLen; omega) (by omega) (by first | (simp; done) | (simp; omega)) ?_
                      intro v1 w2 hown1 hgr1 hat1
                      have F1 : Fr (fun j => w1.heap.size ≤ j) w1 w2 := (by first | exact ((((Fr.refl _ w1).alloc _)).drew).trans (Fr.of_grown hgr1) (fun i _ e => by (have e2 := Option.some.inj e); (try simp at e2); omega) | exact (((((Fr.refl _ w1).alloc _)).alloc _).drew).trans (Fr.of_grown hgr1) (fun i _ e => by (have e2 := Option.some.inj e); (try simp at e2); omega))
                      have hsz2 := F1.size
                      have hB2 := HB.out.fr F1 (by omega)
                      have hK2 := HK.out.fr F1 (by omega)
                      have hBl2 := hB2.lt
                      have hKl2 := hK2.lt
                      have S1 : w2.cell? ⟨w.heap.size, 5, none⟩ = some (.int .i64 num) ∧ w2.cell? ⟨w.heap.size + 1, 0, none⟩ = some (.int .i64 k0) ∧ w2.cell? ⟨w.heap.size + 1, 1, none⟩ = some (.int .i64 k1) ∧ w2.cell? ⟨w.heap.size + 1, 2, none⟩ = some (.int .i64 k2) := ⟨hB2.cell 5, hK2.cell 0, hK2.cell 1, hK2.cell 2⟩
                      refine hK.out _ _ ?_ (fun hHeld => ?_)
                      · try dsimp only
                        first | exact S3 | exact S2 | exact S1 | go_keep
                      clear hK K
                      try simp only [Act.put, List.setIfInBounds_toArray, List.set_cons_zero, List.set_cons_succ]
                      refine wpAnyH_ready (rs := [10]) (by kernel_rfl) (by simp) ?_
                      refine AllReadyH.cons (o := _) (by simp only [List.getElem?_toArray, List.getElem?_cons_zero, List.getElem?_cons_succ]; rfl) (fun K hK => ?_) ?_
                      · skip
                        refine step_append_rows rfl _ _ 52 (by rfl) w1.heap.size 73 i7 _ 5 40 Try.underlying52 hi7 hz70 hz71 hz72 rfl (by decide) v1 _ _ (by rfl) (by first | exact hown1.alloc _ | exact hown1) 0 _ 1 (itemCells ⟨t, num, k0, k1, k2⟩) (by rfl) (by first | exact World.ownsRow_lit (base := 0) (size := 5) (e := 73) w2 #[.int .i64 t, .int .i64 num, .int .i64 k0, .int .i64 k1, .int .i64 k2] 1 (Nat.zero_le _) (by decide) rfl | exact ownsRow_fr hC2.drew (Fr.of_grown hgr1) (fun k hk e => by (have e1 := Option.some.inj hk); (have e2 := Option.some.inj e); (try simp at e1); (try simp at e2); omega) | exact ownsRow_fr ((World.ownsRow_lit (base := 0) (size := 5) (e := 73) w1 #[.int .i64 t, .int .i64 num, .int .i64 k0, .int .i64 k1, .int .i64 k2] 1 (Nat.zero_le _) (by decide) rfl).alloc _).drew (Fr.of_grown hgr1) (fun k hk e => by (have e1 := Option.some.inj hk); (have e2 := Option.some.inj e); (try simp at e1); (try simp at e2); omega)) (itemCells_one _) (by unfold maxLen; omega) (by omega) (by first | omega | (simp; omega)) ?_
                        intro v2 w3 hown2 hgr2 hat2
                        rw [Nat.zero_add] at hown2
                        have F2 : Fr (fun j => w1.heap.size ≤ j) w1 w3 := (by first | exact F1.trans (Fr.of_grown hgr2) (fun i _ e => (World.ownsRow.lt hown1 i e).1) | exact (F1.alloc _).trans (Fr.of_grown hgr2) (fun i _ e => (World.ownsRow.lt hown1 i e).1))
                        have hB3 := HB.out.fr F2 (by omega)
                        have hZ3 := HZ.out.fr F2 (by omega)
                        have hK3 := HK.out.fr F2 (by omega)
                        have S2 : w3.cell? ⟨w.heap.size, 5, none⟩ = some (.int .i64 num) ∧ w3.cell? ⟨w.heap.size + 1, 0, none⟩ = some (.int .i64 k0) ∧ w3.cell? ⟨w.heap.size + 1, 1, none⟩ = some (.int .i64 k1) ∧ w3.cell? ⟨w.heap.size + 1, 2, none⟩ = some (.int .i64 k2) := ⟨hB3.cell 5, hK3.cell 0, hK3.cell 1, hK3.cell 2⟩
                        obtain ⟨A4, c4, hv4⟩ := row_shape hown2
                        subst hv4
                        have y2 := hB3.cell 2
                        have g2 := hB3.frozen 2
                        simp only [List.getElem?_toArray, List.getElem?_cons_zero, List.getElem?_cons_succ] at y2
                        have hK4 := hK3.far (p := ⟨w.heap.size, 2, none⟩) (by show _ ≠ w.heap.size; omega) (.slice A4 (wait.length + 1) c4)
                        have hB4 := hB3.set_ 2 (.slice A4 (wait.length + 1) c4)
                        have S3 : (w3.setCell ⟨w.heap.size, 2, none⟩ (.slice A4 (wait.length + 1) c4)).cell? ⟨w.heap.size, 5, none⟩ = some (.int .i64 num) ∧ (w3.setCell ⟨w.heap.size, 2, none⟩ (.slice A4 (wait.length + 1) c4)).cell? ⟨w.heap.size + 1, 0, none⟩ = some (.int .i64 k0) ∧ (w3.setCell ⟨w.heap.size, 2, none⟩ (.slice A4 (wait.length + 1) c4)).cell? ⟨w.heap.size + 1, 1, none⟩ = some (.int .i64 k1) ∧ (w3.setCell ⟨w.heap.size, 2, none⟩ (.slice A4 (wait.length + 1) c4)).cell? ⟨w.heap.size + 1, 2, none⟩ = some (.int .i64 k2) := ⟨hB4.cell 5, hK4.cell 0, hK4.cell 1, hK4.cell 2⟩
                        refine hK.out _ _ ?_ (fun hHeld => ?_)
                        · try dsimp only
                          first | exact S3 | exact S2 | exact S1 | go_keep
                        clear hK K
                        try simp only [Act.put, List.setIfInBounds_toArray, List.set_cons_zero, List.set_cons_succ]
                        refine wpAnyH_take (i := 11) (oi := _) (v := ?_) (by simp only [List.getElem?_toArray, List.getElem?_cons_zero, List.getElem?_cons_succ]; rfl) (by kernel_rfl) (by kernel_rfl) (by kernel_rfl) (fun _ _ _ h => h) (Or.inl ⟨by rfl, ?_⟩) (by assumption) ?_
                        rotate_left
                        · intro w hSw
                          try dsimp only at hSw
                          go_simp
                          all_goals (with_reducible rfl)
                        try simp only [Act.put, List.setIfInBounds_toArray, List.set_cons_zero, List.set_cons_succ]
                        refine wpAnyH_ready (rs := [12]) (by kernel_rfl) (by simp) ?_
                        refine AllReadyH.cons (o := _) (by simp only [List.getElem?_toArray, List.getElem?_cons_zero, List.getElem?_cons_succ]; rfl) (fun K hK => ?_) ?_
                        · skip
                          go_simp
                          refine hK.out _ _ ?_ (fun hHeld => ?_)
                          · try dsimp only
                            first | exact S3 | exact S2 | exact S1 | go_keep
                          clear hK K
                          try simp only [Act.put, List.setIfInBounds_toArray, List.set_cons_zero, List.set_cons_succ]
                          refine wpAnyH_done (by kernel_rfl) ?_ _
                          refine NoPanic.normal ?_
                          go_wp2_with fail
                          go_meet
                          exact ⟨A4, c4, hB4, hZ3.far (p := ⟨w.heap.size, 2, none⟩) (by show _ ≠ w.heap.size; omega) _, ownsRow_fr (by rw [iCells_snoc] at hown2; exact hown2) ((Fr.refl (fun j => j = w.heap.size) w3).setCell ⟨w.heap.size, 2, none⟩ (fun _ => rfl) _) (fun j hj e => by have := (World.ownsRow.lt hown2 j hj).1; omega), (HF.out.trans F2 (fun i hi e => by omega)).setCell ⟨w.heap.size, 2, none⟩ (fun _ => Nat.le_refl _) _, (F2.mono (fun _ _ h => .inl h)).setCell ⟨w.heap.size, 2, none⟩ (fun _ => .inr rfl) _⟩
                        exact AllReadyH.nil
                      exact AllReadyH.nil
                    exact AllReadyH.nil
                  exact AllReadyH.nil
                exact AllReadyH.nil
              refine AllReadyH.cons (o := _) (by simp only [List.getElem?_toArray, List.getElem?_cons_zero, List.getElem?_cons_succ]; rfl) (fun K hK => ?_) ?_
              · skip
                go_simp
                refine hK.out _ _ ?_ (fun hHeld => ?_)
                · try dsimp only
                  first | exact S3 | exact S2 | exact S1 | go_keep
                clear hK K
                try simp only [Act.put, List.setIfInBounds_toArray, List.set_cons_zero, List.set_cons_succ]
                refine wpAnyH_ready (rs := [0, 9]) (by kernel_rfl) (by simp) ?_
                refine AllReadyH.cons (o := _) (by simp only [List.getElem?_toArray, List.getElem?_cons_zero]; rfl) (fun K hK => ?_) ?_
                · skip
                  go_simp
                  refine hK.out _ _ ?_ (fun hHeld => ?_)
                  · try dsimp only
                    first | exact S3 | exact S2 | exact S1 | go_keep
                  clear hK K
                  try simp only [Act.put, List.setIfInBounds_toArray, List.set_cons_zero, List.set_cons_succ]
                  refine wpAnyH_ready (rs := [3, 9]) (by kernel_rfl) (by simp) ?_
                  refine AllReadyH.cons (o := _) (by simp only [List.getElem?_toArray, List.getElem?_cons_zero, List.getElem?_cons_succ]; rfl) (fun K hK => ?_) ?_
                  · skip
                    refine step_append_rows rfl _ _ 52 (by rfl) w1.heap.size 73 i7 _ 5 40 Try.underlying52 hi7 hz70 hz71 hz72 rfl (by decide) _ 0 [] (by rfl) (by first | exact hlA | exact hlA.alloc _ | exact hA2) n0 (.slice A1 wait.length c1) wait.length (iCells wait) (by rfl) (by first | exact hw1.alloc _ | exact (hw1.alloc _).alloc _) (iCells_one wait) (by unfold maxLen; omega) (by omega) (by first | (simp; done) | (simp; omega)) ?_
                    intro v1 w2 hown1 hgr1 hat1
                    have F1 : Fr (fun j => w1.heap.size ≤ j) w1 w2 := (by first | exact ((((Fr.refl _ w1).alloc _)).drew).trans (Fr.of_grown hgr1) (fun i _ e => by (have e2 := Option.some.inj e); (try simp at e2); omega) | exact (((((Fr.refl _ w1).alloc _)).alloc _).drew).trans (Fr.of_grown hgr1) (fun i _ e => by (have e2 := Option.some.inj e); (try simp at e2); omega))
                    have hsz2 := F1.size
                    have hB2 := HB.out.fr F1 (by omega)
                    have hK2 := HK.out.fr F1 (by omega)
                    have hBl2 := hB2.lt
                    have hKl2 := hK2.lt
                    have S1 : w2.cell? ⟨w.heap.size, 5, none⟩ = some (.int .i64 num) ∧ w2.cell? ⟨w.heap.size + 1, 0, none⟩ = some (.int .i64 k0) ∧ w2.cell? ⟨w.heap.size + 1, 1, none⟩ = some (.int .i64 k1) ∧ w2.cell? ⟨w.heap.size + 1, 2, none⟩ = some (.int .i64 k2) := ⟨hB2.cell 5, hK2.cell 0, hK2.cell 1, hK2.cell 2⟩
                    refine hK.out _ _ ?_ (fun hHeld => ?_)
                    · try dsimp only
                      first | exact S3 | exact S2 | exact S1 | go_keep
                    clear hK K
                    try simp only [Act.put, List.setIfInBounds_toArray, List.set_cons_zero, List.set_cons_succ]
                    refine wpAnyH_ready (rs := [9]) (by kernel_rfl) (by simp) ?_
                    refine AllReadyH.cons (o := _) (by simp only [List.getElem?_toArray, List.getElem?_cons_zero, List.getElem?_cons_succ]; rfl) (fun K hK => ?_) ?_
                    · skip
                      go_simp
                      refine hK.out _ _ ?_ (fun hHeld => ?_)
                      · try dsimp only
                        first | exact S3 | exact S2 | exact S1 | go_keep
                      clear hK K
                      try simp only [Act.put, List.setIfInBounds_toArray, List.set_cons_zero, List.set_cons_succ]
                      refine wpAnyH_ready (rs := [10]) (by kernel_rfl) (by simp) ?_
                      refine AllReadyH.cons (o := _) (by simp only [List.getElem?_toArray, List.getElem?_cons_zero, List.getElem?_cons_succ]; rfl) (fun K hK => ?_) ?_
                      · skip
                        refine step_append_rows rfl _ _ 52 (by rfl) w1.heap.size 73 i7 _ 5 40 Try.underlying52 hi7 hz70 hz71 hz72 rfl (by decide) v1 _ _ (by rfl) (by first | exact hown1.alloc _ | exact hown1) 0 _ 1 (itemCells ⟨t, num, k0, k1, k2⟩) (by rfl) (by first | exact World.ownsRow_lit (base := 0) (size := 5) (e := 73) w2 #[.int .i64 t, .int .i64 num, .int .i64 k0, .int .i64 k1, .int .i64 k2] 1 (Nat.zero_le _) (by decide) rfl | exact ownsRow_fr hC2.drew (Fr.of_grown hgr1) (fun k hk e => by (have e1 := Option.some.inj hk); (have e2 := Option.some.inj e); (try simp at e1); (try simp at e2); omega) | exact ownsRow_fr ((World.ownsRow_lit (base := 0) (size := 5) (e := 73) w1 #[.int .i64 t, .int .i64 num, .int .i64 k0, .int .i64 k1, .int .i64 k2] 1 (Nat.zero_le _) (by decide) rfl).alloc _).drew (Fr.of_grown hgr1) (fun k hk e => by (have e1 := Option.some.inj hk); (have e2 := Option.some.inj e); (try simp at e1); (try simp at e2); omega)) (itemCells_one _) (by unfold maxLen; omega) (by omega) (by first | omega | (simp; omega)) ?_
                        intro v2 w3 hown2 hgr2 hat2
                        rw [Nat.zero_add] at hown2
                        have F2 : Fr (fun j => w1.heap.size ≤ j) w1 w3 := (by first | exact F1.trans (Fr.of_grown hgr2) (fun i _ e => (World.ownsRow.lt hown1 i e).1) | exact (F1.alloc _).trans (Fr.of_grown hgr2) (fun i _ e => (World.ownsRow.lt hown1 i e).1))
                        have hB3 := HB.out.fr F2 (by omega)
                        have hZ3 := HZ.out.fr F2 (by omega)
                        have hK3 := HK.out.fr F2 (by omega)
                        have S2 : w3.cell? ⟨w.heap.size, 5, none⟩ = some (.int .i64 num) ∧ w3.cell? ⟨w.heap.size + 1, 0, none⟩ = some (.int .i64 k0) ∧ w3.cell? ⟨w.heap.size + 1, 1, none⟩ = some (.int .i64 k1) ∧ w3.cell? ⟨w.heap.size + 1, 2, none⟩ = some (.int .i64 k2) := ⟨hB3.cell 5, hK3.cell 0, hK3.cell 1, hK3.cell 2⟩
                        obtain ⟨A4, c4, hv4⟩ := row_shape hown2
                        subst hv4
                        have y2 := hB3.cell 2
                        have g2 := hB3.frozen 2
                        simp only [List.getElem?_toArray, List.getElem?_cons_zero, List.getElem?_cons_succ] at y2
                        have hK4 := hK3.far (p := ⟨w.heap.size, 2, none⟩) (by show _ ≠ w.heap.size; omega) (.slice A4 (wait.length + 1) c4)
                        have hB4 := hB3.set_ 2 (.slice A4 (wait.length + 1) c4)
                        have S3 : (w3.setCell ⟨w.heap.size, 2, none⟩ (.slice A4 (wait.length + 1) c4)).cell? ⟨w.heap.size, 5, none⟩ = some (.int .i64 num) ∧ (w3.setCell ⟨w.heap.size, 2, none⟩ (.slice A4 (wait.length + 1) c4)).cell? ⟨w.heap.size + 1, 0, none⟩ = some (.int .i64 k0) ∧ (w3.setCell ⟨w.heap.size, 2, none⟩ (.slice A4 (wait.length + 1) c4)).cell? ⟨w.heap.size + 1, 1, none⟩ = some (.int .i64 k1) ∧ (w3.setCell ⟨w.heap.size, 2, none⟩ (.slice A4 (wait.length + 1) c4)).cell? ⟨w.heap.size + 1, 2, none⟩ = some (.int .i64 k2) := ⟨hB4.cell 5, hK4.cell 0, hK4.cell 1, hK4.cell 2⟩
                        refine hK.out _ _ ?_ (fun hHeld => ?_)
                        · try dsimp only
                          first | exact S3 | exact S2 | exact S1 | go_keep
                        clear hK K
                        try simp only [Act.put, List.setIfInBounds_toArray, List.set_cons_zero, List.set_cons_succ]
                        refine wpAnyH_take (i := 11) (oi := _) (v := ?_) (by simp only [List.getElem?_toArray, List.getElem?_cons_zero, List.getElem?_cons_succ]; rfl) (by kernel_rfl) (by kernel_rfl) (by kernel_rfl) (fun _ _ _ h => h) (Or.inl ⟨by rfl, ?_⟩) (by assumption) ?_
                        rotate_left
                        · intro w hSw
                          try dsimp only at hSw
                          go_simp
                          all_goals (with_reducible rfl)
                        try simp only [Act.put, List.setIfInBounds_toArray, List.set_cons_zero, List.set_cons_succ]
                        refine wpAnyH_ready (rs := [12]) (by kernel_rfl) (by simp) ?_
                        refine AllReadyH.cons (o := _) (by simp only [List.getElem?_toArray, List.getElem?_cons_zero, List.getElem?_cons_succ]; rfl) (fun K hK => ?_) ?_
                        · skip
                          go_simp
                          refine hK.out _ _ ?_ (fun hHeld => ?_)
                          · try dsimp only
                            first | exact S3 | exact S2 | exact S1 | go_keep
                          clear hK K
                          try simp only [Act.put, List.setIfInBounds_toArray, List.set_cons_zero, List.set_cons_succ]
                          refine wpAnyH_done (by kernel_rfl) ?_ _
                          refine NoPanic.normal ?_
                          go_wp2_with fail
                          go_meet
                          exact ⟨A4, c4, hB4, hZ3.far (p := ⟨w.heap.size, 2, none⟩) (by show _ ≠ w.heap.size; omega) _, ownsRow_fr (by rw [iCells_snoc] at hown2; exact hown2) ((Fr.refl (fun j => j = w.heap.size) w3).setCell ⟨w.heap.size, 2, none⟩ (fun _ => rfl) _) (fun j hj e => by have := (World.ownsRow.lt hown2 j hj).1; omega), (HF.out.trans F2 (fun i hi e => by omega)).setCell ⟨w.heap.size, 2, none⟩ (fun _ => Nat.le_refl _) _, (F2.mono (fun _ _ h => .inl h)).setCell ⟨w.heap.size, 2, none⟩ (fun _ => .inr rfl) _⟩
                        exact AllReadyH.nil
                      exact AllReadyH.nil
                    exact AllReadyH.nil
                  refine AllReadyH.cons (o := _) (by simp only [List.getElem?_toArray, List.getElem?_cons_zero, List.getElem?_cons_succ]; rfl) (fun K hK => ?_) ?_
                  · skip
                    go_simp
                    refine hK.out _ _ ?_ (fun hHeld => ?_)
                    · try dsimp only
                      first | exact S3 | exact S2 | exact S1 | go_keep
                    clear hK K
                    try simp only [Act.put, List.setIfInBounds_toArray, List.set_cons_zero, List.set_cons_succ]
                    refine wpAnyH_ready (rs := [3]) (by kernel_rfl) (by simp) ?_
                    refine AllReadyH.cons (o := _) (by simp only [List.getElem?_toArray, List.getElem?_cons_zero, List.getElem?_cons_succ]; rfl) (fun K hK => ?_) ?_
                    · skip
                      refine step_append_rows rfl _ _ 52 (by rfl) w1.heap.size 73 i7 _ 5 40 Try.underlying52 hi7 hz70 hz71 hz72 rfl (by decide) _ 0 [] (by rfl) (by first | exact hlA | exact hlA.alloc _ | exact hA2) n0 (.slice A1 wait.length c1) wait.length (iCells wait) (by rfl) (by first | exact hw1.alloc _ | exact (hw1.alloc _).alloc _) (iCells_one wait) (by unfold maxLen; omega) (by omega) (by first | (simp; done) | (simp; omega)) ?_
                      intro v1 w2 hown1 hgr1 hat1
                      have F1 : Fr (fun j => w1.heap.size ≤ j) w1 w2 := (by first | exact ((((Fr.refl _ w1).alloc _)).drew).trans (Fr.of_grown hgr1) (fun i _ e => by (have e2 := Option.some.inj e); (try simp at e2); omega) | exact (((((Fr.refl _ w1).alloc _)).alloc _).drew).trans (Fr.of_grown hgr1) (fun i _ e => by (have e2 := Option.some.inj e); (try simp at e2); omega))
                      have hsz2 := F1.size
                      have hB2 := HB.out.fr F1 (by omega)
                      have hK2 := HK.out.fr F1 (by omega)
                      have hBl2 := hB2.lt
                      have hKl2 := hK2.lt
                      have S1 : w2.cell? ⟨w.heap.size, 5, none⟩ = some (.int .i64 num) ∧ w2.cell? ⟨w.heap.size + 1, 0, none⟩ = some (.int .i64 k0) ∧ w2.cell? ⟨w.heap.size + 1, 1, none⟩ = some (.int .i64 k1) ∧ w2.cell? ⟨w.heap.size + 1, 2, none⟩ = some (.int .i64 k2) := ⟨hB2.cell 5, hK2.cell 0, hK2.cell 1, hK2.cell 2⟩
                      refine hK.out _ _ ?_ (fun hHeld => ?_)
                      · try dsimp only
                        first | exact S3 | exact S2 | exact S1 | go_keep
                      clear hK K
                      try simp only [Act.put, List.setIfInBounds_toArray, List.set_cons_zero, List.set_cons_succ]
                      refine wpAnyH_ready (rs := [10]) (by kernel_rfl) (by simp) ?_
                      refine AllReadyH.cons (o := _) (by simp only [List.getElem?_toArray, List.getElem?_cons_zero, List.getElem?_cons_succ]; rfl) (fun K hK => ?_) ?_
                      · skip
                        refine step_append_rows rfl _ _ 52 (by rfl) w1.heap.size 73 i7 _ 5 40 Try.underlying52 hi7 hz70 hz71 hz72 rfl (by decide) v1 _ _ (by rfl) (by first | exact hown1.alloc _ | exact hown1) 0 _ 1 (itemCells ⟨t, num, k0, k1, k2⟩) (by rfl) (by first | exact World.ownsRow_lit (base := 0) (size := 5) (e := 73) w2 #[.int .i64 t, .int .i64 num, .int .i64 k0, .int .i64 k1, .int .i64 k2] 1 (Nat.zero_le _) (by decide) rfl | exact ownsRow_fr hC2.drew (Fr.of_grown hgr1) (fun k hk e => by (have e1 := Option.some.inj hk); (have e2 := Option.some.inj e); (try simp at e1); (try simp at e2); omega) | exact ownsRow_fr ((World.ownsRow_lit (base := 0) (size := 5) (e := 73) w1 #[.int .i64 t, .int .i64 num, .int .i64 k0, .int .i64 k1, .int .i64 k2] 1 (Nat.zero_le _) (by decide) rfl).alloc _).drew (Fr.of_grown hgr1) (fun k hk e => by (have e1 := Option.some.inj hk); (have e2 := Option.some.inj e); (try simp at e1); (try simp at e2); omega)) (itemCells_one _) (by unfold maxLen; omega) (by omega) (by first | omega | (simp; omega)) ?_
                        intro v2 w3 hown2 hgr2 hat2
                        rw [Nat.zero_add] at hown2
                        have F2 : Fr (fun j => w1.heap.size ≤ j) w1 w3 := (by first | exact F1.trans (Fr.of_grown hgr2) (fun i _ e => (World.ownsRow.lt hown1 i e).1) | exact (F1.alloc _).trans (Fr.of_grown hgr2) (fun i _ e => (World.ownsRow.lt hown1 i e).1))
                        have hB3 := HB.out.fr F2 (by omega)
                        have hZ3 := HZ.out.fr F2 (by omega)
                        have hK3 := HK.out.fr F2 (by omega)
                        have S2 : w3.cell? ⟨w.heap.size, 5, none⟩ = some (.int .i64 num) ∧ w3.cell? ⟨w.heap.size + 1, 0, none⟩ = some (.int .i64 k0) ∧ w3.cell? ⟨w.heap.size + 1, 1, none⟩ = some (.int .i64 k1) ∧ w3.cell? ⟨w.heap.size + 1, 2, none⟩ = some (.int .i64 k2) := ⟨hB3.cell 5, hK3.cell 0, hK3.cell 1, hK3.cell 2⟩
                        obtain ⟨A4, c4, hv4⟩ := row_shape hown2
                        subst hv4
                        have y2 := hB3.cell 2
                        have g2 := hB3.frozen 2
                        simp only [List.getElem?_toArray, List.getElem?_cons_zero, List.getElem?_cons_succ] at y2
                        have hK4 := hK3.far (p := ⟨w.heap.size, 2, none⟩) (by show _ ≠ w.heap.size; omega) (.slice A4 (wait.length + 1) c4)
                        have hB4 := hB3.set_ 2 (.slice A4 (wait.length + 1) c4)
                        have S3 : (w3.setCell ⟨w.heap.size, 2, none⟩ (.slice A4 (wait.length + 1) c4)).cell? ⟨w.heap.size, 5, none⟩ = some (.int .i64 num) ∧ (w3.setCell ⟨w.heap.size, 2, none⟩ (.slice A4 (wait.length + 1) c4)).cell? ⟨w.heap.size + 1, 0, none⟩ = some (.int .i64 k0) ∧ (w3.setCell ⟨w.heap.size, 2, none⟩ (.slice A4 (wait.length + 1) c4)).cell? ⟨w.heap.size + 1, 1, none⟩ = some (.int .i64 k1) ∧ (w3.setCell ⟨w.heap.size, 2, none⟩ (.slice A4 (wait.length + 1) c4)).cell? ⟨w.heap.size + 1, 2, none⟩ = some (.int .i64 k2) := ⟨hB4.cell 5, hK4.cell 0, hK4.cell 1, hK4.cell 2⟩
                        refine hK.out _ _ ?_ (fun hHeld => ?_)
                        · try dsimp only
                          first | exact S3 | exact S2 | exact S1 | go_keep
                        clear hK K
                        try simp only [Act.put, List.setIfInBounds_toArray, List.set_cons_zero, List.set_cons_succ]
                        refine wpAnyH_take (i := 11) (oi := _) (v := ?_) (by simp only [List.getElem?_toArray, List.getElem?_cons_zero, List.getElem?_cons_succ]; rfl) (by kernel_rfl) (by kernel_rfl) (by kernel_rfl) (fun _ _ _ h => h) (Or.inl ⟨by rfl, ?_⟩) (by assumption) ?_
                        rotate_left
                        · intro w hSw
                          try dsimp only at hSw
                          go_simp
                          all_goals (with_reducible rfl)
                        try simp only [Act.put, List.setIfInBounds_toArray, List.set_cons_zero, List.set_cons_succ]
                        refine wpAnyH_ready (rs := [12]) (by kernel_rfl) (by simp) ?_
                        refine AllReadyH.cons (o := _) (by simp only [List.getElem?_toArray, List.getElem?_cons_zero, List.getElem?_cons_succ]; rfl) (fun K hK => ?_) ?_
                        · skip
                          go_simp
                          refine hK.out _ _ ?_ (fun hHeld => ?_)
                          · try dsimp only
                            first | exact S3 | exact S2 | exact S1 | go_keep
                          clear hK K
                          try simp only [Act.put, List.setIfInBounds_toArray, List.set_cons_zero, List.set_cons_succ]
                          refine wpAnyH_done (by kernel_rfl) ?_ _
                          refine NoPanic.normal ?_
                          go_wp2_with fail
                          go_meet
                          exact ⟨A4, c4, hB4, hZ3.far (p := ⟨w.heap.size, 2, none⟩) (by show _ ≠ w.heap.size; omega) _, ownsRow_fr (by rw [iCells_snoc] at hown2; exact hown2) ((Fr.refl (fun j => j = w.heap.size) w3).setCell ⟨w.heap.size, 2, none⟩ (fun _ => rfl) _) (fun j hj e => by have := (World.ownsRow.lt hown2 j hj).1; omega), (HF.out.trans F2 (fun i hi e => by omega)).setCell ⟨w.heap.size, 2, none⟩ (fun _ => Nat.le_refl _) _, (F2.mono (fun _ _ h => .inl h)).setCell ⟨w.heap.size, 2, none⟩ (fun _ => .inr rfl) _⟩
                        exact AllReadyH.nil
                      exact AllReadyH.nil
                    exact AllReadyH.nil
                  exact AllReadyH.nil
                refine AllReadyH.cons (o := _) (by simp only [List.getElem?_toArray, List.getElem?_cons_zero, List.getElem?_cons_succ]; rfl) (fun K hK => ?_) ?_
                · skip
                  go_simp
                  refine hK.out _ _ ?_ (fun hHeld => ?_)
                  · try dsimp only
                    first | exact S3 | exact S2 | exact S1 | go_keep
                  clear hK K
                  try simp only [Act.put, List.setIfInBounds_toArray, List.set_cons_zero, List.set_cons_succ]
                  refine wpAnyH_ready (rs := [0]) (by kernel_rfl) (by simp) ?_
                  refine AllReadyH.cons (o := _) (by simp only [List.getElem?_toArray, List.getElem?_cons_zero]; rfl) (fun K hK => ?_) ?_
                  · skip
                    go_simp
                    refine hK.out _ _ ?_ (fun hHeld => ?_)
                    · try dsimp only
                      first | exact S3 | exact S2 | exact S1 | go_keep
                    clear hK K
                    try simp only [Act.put, List.setIfInBounds_toArray, List.set_cons_zero, List.set_cons_succ]
                    refine wpAnyH_ready (rs := [3]) (by kernel_rfl) (by simp) ?_
                    refine AllReadyH.cons (o := _) (by simp only [List.getElem?_toArray, List.getElem?_cons_zero, List.getElem?_cons_succ]; rfl) (fun K hK => ?_) ?_
                    · skip
                      refine step_append_rows rfl _ _ 52 (by rfl) w1.heap.size 73 i7 _ 5 40 Try.underlying52 hi7 hz70 hz71 hz72 rfl (by decide) _ 0 [] (by rfl) (by first | exact hlA | exact hlA.alloc _ | exact hA2) n0 (.slice A1 wait.length c1) wait.length (iCells wait) (by rfl) (by first | exact hw1.alloc _ | exact (hw1.alloc _).alloc _) (iCells_one wait) (by unfold maxLen; omega) (by omega) (by first | (simp; done) | (simp; omega)) ?_
                      intro v1 w2 hown1 hgr1 hat1
                      have F1 : Fr (fun j => w1.heap.size ≤ j) w1 w2 := (by first | exact ((((Fr.refl _ w1).alloc _)).drew).trans (Fr.of_grown hgr1) (fun i _ e => by (have e2 := Option.some.inj e); (try simp at e2); omega) | exact (((((Fr.refl _ w1).alloc _)).alloc _).drew).trans (Fr.of_grown hgr1) (fun i _ e => by (have e2 := Option.some.inj e); (try simp at e2); omega))
                      have hsz2 := F1.size
                      have hB2 := HB.out.fr F1 (by omega)
                      have hK2 := HK.out.fr F1 (by omega)
                      have hBl2 := hB2.lt
                      have hKl2 := hK2.lt
                      have S1 : w2.cell? ⟨w.heap.size, 5, none⟩ = some (.int .i64 num) ∧ w2.cell? ⟨w.heap.size + 1, 0, none⟩ = some (.int .i64 k0) ∧ w2.cell? ⟨w.heap.size + 1, 1, none⟩ = some (.int .i64 k1) ∧ w2.cell? ⟨w.heap.size + 1, 2, none⟩ = some (.int .i64 k2) := ⟨hB2.cell 5, hK2.cell 0, hK2.cell 1, hK2.cell 2⟩
                      refine hK.out _ _ ?_ (fun hHeld => ?_)
                      · try dsimp only
                        first | exact S3 | exact S2 | exact S1 | go_keep
                      clear hK K
                      try simp only [Act.put, List.setIfInBounds_toArray, List.set_cons_zero, List.set_cons_succ]
                      refine wpAnyH_ready (rs := [10]) (by kernel_rfl) (by simp) ?_
                      refine AllReadyH.cons (o := _) (by simp only [List.getElem?_toArray, List.getElem?_cons_zero, List.getElem?_cons_succ]; rfl) (fun K hK => ?_) ?_
                      · skip
                        refine step_append_rows rfl _ _ 52 (by rfl) w1.heap.size 73 i7 _ 5 40 Try.underlying52 hi7 hz70 hz71 hz72 rfl (by decide) v1 _ _ (by rfl) (by first | exact hown1.alloc _ | exact hown1) 0 _ 1 (itemCells ⟨t, num, k0, k1, k2⟩) (by rfl) (by first | exact World.ownsRow_lit (base := 0) (size := 5) (e := 73) w2 #[.int .i64 t, .int .i64 num, .int .i64 k0, .int .i64 k1, .int .i64 k2] 1 (Nat.zero_le _) (by decide) rfl | exact ownsRow_fr hC2.drew (Fr.of_grown hgr1) (fun k hk e => by (have e1 := Option.some.inj hk); (have e2 := Option.some.inj e); (try simp at e1); (try simp at e2); omega) | exact ownsRow_fr ((World.ownsRow_lit (base := 0) (size := 5) (e := 73) w1 #[.int .i64 t, .int .i64 num, .int .i64 k0, .int .i64 k1, .int .i64 k2] 1 (Nat.zero_le _) (by decide) rfl).alloc _).drew (Fr.of_grown hgr1) (fun k hk e => by (have e1 := Option.some.inj hk); (have e2 := Option.some.inj e); (try simp at e1); (try simp at e2); omega)) (itemCells_one _) (by unfold maxLen; omega) (by omega) (by first | omega | (simp; omega)) ?_
                        intro v2 w3 hown2 hgr2 hat2
                        rw [Nat.zero_add] at hown2
                        have F2 : Fr (fun j => w1.heap.size ≤ j) w1 w3 := (by first | exact F1.trans (Fr.of_grown hgr2) (fun i _ e => (World.ownsRow.lt hown1 i e).1) | exact (F1.alloc _).trans (Fr.of_grown hgr2) (fun i _ e => (World.ownsRow.lt hown1 i e).1))
                        have hB3 := HB.out.fr F2 (by omega)
                        have hZ3 := HZ.out.fr F2 (by omega)
                        have hK3 := HK.out.fr F2 (by omega)
                        have S2 : w3.cell? ⟨w.heap.size, 5, none⟩ = some (.int .i64 num) ∧ w3.cell? ⟨w.heap.size + 1, 0, none⟩ = some (.int .i64 k0) ∧ w3.cell? ⟨w.heap.size + 1, 1, none⟩ = some (.int .i64 k1) ∧ w3.cell? ⟨w.heap.size + 1, 2, none⟩ = some (.int .i64 k2) := ⟨hB3.cell 5, hK3.cell 0, hK3.cell 1, hK3.cell 2⟩
                        obtain ⟨A4, c4, hv4⟩ := row_shape hown2
                        subst hv4
                        have y2 := hB3.cell 2
                        have g2 := hB3.frozen 2
                        simp only [List.getElem?_toArray, List.getElem?_cons_zero, List.getElem?_cons_succ] at y2
                        have hK4 := hK3.far (p := ⟨w.heap.size, 2, none⟩) (by show _ ≠ w.heap.size; omega) (.slice A4 (wait.length + 1) c4)
                        have hB4 := hB3.set_ 2 (.slice A4 (wait.length + 1) c4)
                        have S3 : (w3.setCell ⟨w.heap.size, 2, none⟩ (.slice A4 (wait.length + 1) c4)).cell? ⟨w.heap.size, 5, none⟩ = some (.int .i64 num) ∧ (w3.setCell ⟨w.heap.size, 2, none⟩ (.slice A4 (wait.length + 1) c4)).cell? ⟨w.heap.size + 1, 0, none⟩ = some (.int .i64 k0) ∧ (w3.setCell ⟨w.heap.size, 2, none⟩ (.slice A4 (wait.length + 1) c4)).cell? ⟨w.heap.size + 1, 1, none⟩ = some (.int .i64 k1) ∧ (w3.setCell ⟨w.heap.size, 2, none⟩ (.slice A4 (wait.length + 1) c4)).cell? ⟨w.heap.size + 1, 2, none⟩ = some (.int .i64 k2) := ⟨hB4.cell 5, hK4.cell 0, hK4.cell 1, hK4.cell 2⟩
                        refine hK.out _ _ ?_ (fun hHeld => ?_)
                        · try dsimp only
                          first | exact S3 | exact S2 | exact S1 | go_keep
                        clear hK K
                        try simp only [Act.put, List.setIfInBounds_toArray, List.set_cons_zero, List.set_cons_succ]
                        refine wpAnyH_take (i := 11) (oi := _) (v := ?_) (by simp only [List.getElem?_toArray, List.getElem?_cons_zero, List.getElem?_cons_succ]; rfl) (by kernel_rfl) (by kernel_rfl) (by kernel_rfl) (fun _ _ _ h => h) (Or.inl ⟨by rfl, ?_⟩) (by assumption) ?_
                        rotate_left
                        · intro w hSw
                          try dsimp only at hSw
                          go_simp
                          all_goals (with_reducible rfl)
                        try simp only [Act.put, List.setIfInBounds_toArray, List.set_cons_zero, List.set_cons_succ]
                        refine wpAnyH_ready (rs := [12]) (by kernel_rfl) (by simp) ?_
                        refine AllReadyH.cons (o := _) (by simp only [List.getElem?_toArray, List.getElem?_cons_zero, List.getElem?_cons_succ]; rfl) (fun K hK => ?_) ?_
                        · skip
                          go_simp
                          refine hK.out _ _ ?_ (fun hHeld => ?_)
                          · try dsimp only
                            first | exact S3 | exact S2 | exact S1 | go_keep
                          clear hK K
                          try simp only [Act.put, List.setIfInBounds_toArray, List.set_cons_zero, List.set_cons_succ]
                          refine wpAnyH_done (by kernel_rfl) ?_ _
                          refine NoPanic.normal ?_
                          go_wp2_with fail
                          go_meet
                          exact ⟨A4, c4, hB4, hZ3.far (p := ⟨w.heap.size, 2, none⟩) (by show _ ≠ w.heap.size; omega) _, ownsRow_fr (by rw [iCells_snoc] at hown2; exact hown2) ((Fr.refl (fun j => j = w.heap.size) w3).setCell ⟨w.heap.size, 2, none⟩ (fun _ => rfl) _) (fun j hj e => by have := (World.ownsRow.lt hown2 j hj).1; omega), (HF.out.trans F2 (fun i hi e => by omega)).setCell ⟨w.heap.size, 2, none⟩ (fun _ => Nat.le_refl _) _, (F2.mono (fun _ _ h => .inl h)).setCell ⟨w.heap.size, 2, none⟩ (fun _ => .inr rfl) _⟩
                        exact AllReadyH.nil
                      exact AllReadyH.nil
                    exact AllReadyH.nil
                  exact AllReadyH.nil
                exact AllReadyH.nil
              refine AllReadyH.cons (o := _) (by simp only [List.getElem?_toArray, List.getElem?_cons_zero, List.getElem?_cons_succ]; rfl) (fun K hK => ?_) ?_
              · skip
                go_simp
                refine hK.out _ _ ?_ (fun hHeld => ?_)
                · try dsimp only
                  first | exact S3 | exact S2 | exact S1 | go_keep
                clear hK K
                try simp only [Act.put, List.setIfInBounds_toArray, List.set_cons_zero, List.set_cons_succ]
                refine wpAnyH_ready (rs := [0, 2]) (by kernel_rfl) (by simp) ?_
                refine AllReadyH.cons (o := _) (by simp only [List.getElem?_toArray, List.getElem?_cons_zero]; rfl) (fun K hK => ?_) ?_
                · skip
                  go_simp
                  refine hK.out _ _ ?_ (fun hHeld => ?_)
                  · try dsimp only
                    first | exact S3 | exact S2 | exact S1 | go_keep
                  clear hK K
                  try simp only [Act.put, List.setIfInBounds_toArray, List.set_cons_zero, List.set_cons_succ]
                  refine wpAnyH_ready (rs := [2]) (by kernel_rfl) (by simp) ?_
                  refine AllReadyH.cons (o := _) (by simp only [List.getElem?_toArray, List.getElem?_cons_zero, List.getElem?_cons_succ]; rfl) (fun K hK => ?_) ?_
                  · skip
                    go_simp
                    refine hK.out _ _ ?_ (fun hHeld => ?_)
                    · try dsimp only
                      first | exact S3 | exact S2 | exact S1 | go_keep
                    clear hK K
                    try simp only [Act.put, List.setIfInBounds_toArray, List.set_cons_zero, List.set_cons_succ]
                    refine wpAnyH_ready (rs := [3]) (by kernel_rfl) (by simp) ?_
                    refine AllReadyH.cons (o := _) (by simp only [List.getElem?_toArray, List.getElem?_cons_zero, List.getElem?_cons_succ]; rfl) (fun K hK => ?_) ?_
                    · skip
                      refine step_append_rows rfl _ _ 52 (by rfl) w1.heap.size 73 i7 _ 5 40 Try.underlying52 hi7 hz70 hz71 hz72 rfl (by decide) _ 0 [] (by rfl) (by first | exact hlA | exact hlA.alloc _ | exact hA2) n0 (.slice A1 wait.length c1) wait.length (iCells wait) (by rfl) (by first | exact hw1.alloc _ | exact (hw1.alloc _).alloc _) (iCells_one wait) (by unfold maxLen; omega) (by omega) (by first | (simp; done) | (simp; omega)) ?_
                      intro v1 w2 hown1 hgr1 hat1
                      have F1 : Fr (fun j => w1.heap.size ≤ j) w1 w2 := (by first | exact ((((Fr.refl _ w1).alloc _)).drew).trans (Fr.of_grown hgr1) (fun i _ e => by (have e2 := Option.some.inj e); (try simp at e2); omega) | exact (((((Fr.refl _ w1).alloc _)).alloc _).drew).trans (Fr.of_grown hgr1) (fun i _ e => by (have e2 := Option.some.inj e); (try simp at e2); omega))
                      have hsz2 := F1.size
                      have hB2 := HB.out.fr F1 (by omega)
                      have hK2 := HK.out.fr F1 (by omega)
                      have hBl2 := hB2.lt
                      have hKl2 := hK2.lt
                      have S1 : w2.cell? ⟨w.heap.size, 5, none⟩ = some (.int .i64 num) ∧ w2.cell? ⟨w.heap.size + 1, 0, none⟩ = some (.int .i64 k0) ∧ w2.cell? ⟨w.heap.size + 1, 1, none⟩ = some (.int .i64 k1) ∧ w2.cell? ⟨w.heap.size + 1, 2, none⟩ = some (.int .i64 k2) := ⟨hB2.cell 5, hK2.cell 0, hK2.cell 1, hK2.cell 2⟩
                      refine hK.out _ _ ?_ (fun hHeld => ?_)
                      · try dsimp only
                        first | exact S3 | exact S2 | exact S1 | go_keep
                      clear hK K
                      try simp only [Act.put, List.setIfInBounds_toArray, List.set_cons_zero, List.set_cons_succ]
                      refine wpAnyH_ready (rs := [10]) (by kernel_rfl) (by simp) ?_
                      refine AllReadyH.cons (o := _) (by simp only [List.getElem?_toArray, List.getElem?_cons_zero, List.getElem?_cons_succ]; rfl) (fun K hK => ?_) ?_
                      · skip
                        refine step_append_rows rfl _ _ 52 (by rfl) w1.heap.size 73 i7 _ 5 40 Try.underlying52 hi7 hz70 hz71 hz72 rfl (by decide) v1 _ _ (by rfl) (by first | exact hown1.alloc _ | exact hown1) 0 _ 1 (itemCells ⟨t, num, k0, k1, k2⟩) (by rfl) (by first | exact World.ownsRow_lit (base := 0) (size := 5) (e := 73) w2 #[.int .i64 t, .int .i64 num, .int .i64 k0, .int .i64 k1, .int .i64 k2] 1 (Nat.zero_le _) (by decide) rfl | exact ownsRow_fr hC2.drew (Fr.of_grown hgr1) (fun k hk e => by (have e1 := Option.some.inj hk); (have e2 := Option.some.inj e); (try simp at e1); (try simp at e2); omega) | exact ownsRow_fr ((World.ownsRow_lit (base := 0) (size := 5) (e := 73) w1 #[.int .i64 t, .int .i64 num, .int .i64 k0, .int .i64 k1, .int .i64 k2] 1 (Nat.zero_le _) (by decide) rfl).alloc _).drew (Fr.of_grown hgr1) (fun k hk e => by (have e1 := Option.some.inj hk); (have e2 := Option.some.inj e); (try simp at e1); (try simp at e2); omega)) (itemCells_one _) (by unfold maxLen; omega) (by omega) (by first | omega | (simp; omega)) ?_
                        intro v2 w3 hown2 hgr2 hat2
                        rw [Nat.zero_add] at hown2
                        have F2 : Fr (fun j => w1.heap.size ≤ j) w1 w3 := (by first | exact F1.trans (Fr.of_grown hgr2) (fun i _ e => (World.ownsRow.lt hown1 i e).1) | exact (F1.alloc _).trans (Fr.of_grown hgr2) (fun i _ e => (World.ownsRow.lt hown1 i e).1))
                        have hB3 := HB.out.fr F2 (by omega)
                        have hZ3 := HZ.out.fr F2 (by omega)
                        have hK3 := HK.out.fr F2 (by omega)
                        have S2 : w3.cell? ⟨w.heap.size, 5, none⟩ = some (.int .i64 num) ∧ w3.cell? ⟨w.heap.size + 1, 0, none⟩ = some (.int .i64 k0) ∧ w3.cell? ⟨w.heap.size + 1, 1, none⟩ = some (.int .i64 k1) ∧ w3.cell? ⟨w.heap.size + 1, 2, none⟩ = some (.int .i64 k2) := ⟨hB3.cell 5, hK3.cell 0, hK3.cell 1, hK3.cell 2⟩
                        obtain ⟨A4, c4, hv4⟩ := row_shape hown2
                        subst hv4
                        have y2 := hB3.cell 2
                        have g2 := hB3.frozen 2
                        simp only [List.getElem?_toArray, List.getElem?_cons_zero, List.getElem?_cons_succ] at y2
                        have hK4 := hK3.far (p := ⟨w.heap.size, 2, none⟩) (by show _ ≠ w.heap.size; omega) (.slice A4 (wait.length + 1) c4)
                        have hB4 := hB3.set_ 2 (.slice A4 (wait.length + 1) c4)
                        have S3 : (w3.setCell ⟨w.heap.size, 2, none⟩ (.slice A4 (wait.length + 1) c4)).cell? ⟨w.heap.size, 5, none⟩ = some (.int .i64 num) ∧ (w3.setCell ⟨w.heap.size, 2, none⟩ (.slice A4 (wait.length + 1) c4)).cell? ⟨w.heap.size + 1, 0, none⟩ = some (.int .i64 k0) ∧ (w3.setCell ⟨w.heap.size, 2, none⟩ (.slice A4 (wait.length + 1) c4)).cell? ⟨w.heap.size + 1, 1, none⟩ = some (.int .i64 k1) ∧ (w3.setCell ⟨w.heap.size, 2, none⟩ (.slice A4 (wait.length + 1) c4)).cell? ⟨w.heap.size + 1, 2, none⟩ = some (.int .i64 k2) := ⟨hB4.cell 5, hK4.cell 0, hK4.cell 1, hK4.cell 2⟩
                        refine hK.out _ _ ?_ (fun hHeld => ?_)
                        · try dsimp only
                          first | exact S3 | exact S2 | exact S1 | go_keep
                        clear hK K
                        try simp only [Act.put, List.setIfInBounds_toArray, List.set_cons_zero, List.set_cons_succ]
                        refine wpAnyH_take (i := 11) (oi := _) (v := ?_) (by simp only [List.getElem?_toArray, List.getElem?_cons_zero, List.getElem?_cons_succ]; rfl) (by kernel_rfl) (by kernel_rfl) (by kernel_rfl) (fun _ _ _ h => h) (Or.inl ⟨by rfl, ?_⟩) (by assumption) ?_
                        rotate_left
                        · intro w hSw
                          try dsimp only at hSw
                          go_simp
                          all_goals (with_reducible rfl)
                        try simp only [Act.put, List.setIfInBounds_toArray, List.set_cons_zero, List.set_cons_succ]
                        refine wpAnyH_ready (rs := [12]) (by kernel_rfl) (by simp) ?_
                        refine AllReadyH.cons (o := _) (by simp only [List.getElem?_toArray, List.getElem?_cons_zero, List.getElem?_cons_succ]; rfl) (fun K hK => ?_) ?_
                        · skip
                          go_simp
                          refine hK.out _ _ ?_ (fun hHeld => ?_)
                          · try dsimp only
                            first | exact S3 | exact S2 | exact S1 | go_keep
                          clear hK K
                          try simp only [Act.put, List.setIfInBounds_toArray, List.set_cons_zero, List.set_cons_succ]
                          refine wpAnyH_done (by kernel_rfl) ?_ _
                          refine NoPanic.normal ?_
                          go_wp2_with fail
                          go_meet
                          exact ⟨A4, c4, hB4, hZ3.far (p := ⟨w.heap.size, 2, none⟩) (by show _ ≠ w.heap.size; omega) _, ownsRow_fr (by rw [iCells_snoc] at hown2; exact hown2) ((Fr.refl (fun j => j = w.heap.size) w3).setCell ⟨w.heap.size, 2, none⟩ (fun _ => rfl) _) (fun j hj e => by have := (World.ownsRow.lt hown2 j hj).1; omega), (HF.out.trans F2 (fun i hi e => by omega)).setCell ⟨w.heap.size, 2, none⟩ (fun _ => Nat.le_refl _) _, (F2.mono (fun _ _ h => .inl h)).setCell ⟨w.heap.size, 2, none⟩ (fun _ => .inr rfl) _⟩
                        exact AllReadyH.nil
                      exact AllReadyH.nil
                    exact AllReadyH.nil
                  exact AllReadyH.nil
                refine AllReadyH.cons (o := _) (by simp only [List.getElem?_toArray, List.getElem?_cons_zero, List.getElem?_cons_succ]; rfl) (fun K hK => ?_) ?_
                · skip
                  go_simp
                  refine hK.out _ _ ?_ (fun hHeld => ?_)
                  · try dsimp only
                    first | exact S3 | exact S2 | exact S1 | go_keep
                  clear hK K
                  try simp only [Act.put, List.setIfInBounds_toArray, List.set_cons_zero, List.set_cons_succ]
                  refine wpAnyH_ready (rs := [0]) (by kernel_rfl) (by simp) ?_
                  refine AllReadyH.cons (o := _) (by simp only [List.getElem?_toArray, List.getElem?_cons_zero]; rfl) (fun K hK => ?_) ?_
                  · skip
                    go_simp
                    refine hK.out _ _ ?_ (fun hHeld => ?_)
                    · try dsimp only
                      first | exact S3 | exact S2 | exact S1 | go_keep
                    clear hK K
                    try simp only [Act.put, List.setIfInBounds_toArray, List.set_cons_zero, List.set_cons_succ]
                    refine wpAnyH_ready (rs := [3]) (by kernel_rfl) (by simp) ?_
                    refine AllReadyH.cons (o := _) (by simp only [List.getElem?_toArray, List.getElem?_cons_zero, List.getElem?_cons_succ]; rfl) (fun K hK => ?_) ?_
                    · skip
                      refine step_append_rows rfl _ _ 52 (by rfl) w1.heap.size 73 i7 _ 5 40 Try.underlying52 hi7 hz70 hz71 hz72 rfl (by decide) _ 0 [] (by rfl) (by first | exact hlA | exact hlA.alloc _ | exact hA2) n0 (.slice A1 wait.length c1) wait.length (iCells wait) (by rfl) (by first | exact hw1.alloc _ | exact (hw1.alloc _).alloc _) (iCells_one wait) (by unfold maxLen; omega) (by omega) (by first | (simp; done) | (simp; omega)) ?_
                      intro v1 w2 hown1 hgr1 hat1
                      have F1 : Fr (fun j => w1.heap.size ≤ j) w1 w2 := (by first | exact ((((Fr.refl _ w1).alloc _)).drew).trans (Fr.of_grown hgr1) (fun i _ e => by (have e2 := Option.some.inj e); (try simp at e2); omega) | exact (((((Fr.refl _ w1).alloc _)).alloc _).drew).trans (Fr.of_grown hgr1) (fun i _ e => by (have e2 := Option.some.inj e); (try simp at e2); omega))
                      have hsz2 := F1.size
                      have hB2 := HB.out.fr F1 (by omega)
                      have hK2 := HK.out.fr F1 (by omega)
                      have hBl2 := hB2.lt
                      have hKl2 := hK2.lt
                      have S1 : w2.cell? ⟨w.heap.size, 5, none⟩ = some (.int .i64 num) ∧ w2.cell? ⟨w.heap.size + 1, 0, none⟩ = some (.int .i64 k0) ∧ w2.cell? ⟨w.heap.size + 1, 1, none⟩ = some (.int .i64 k1) ∧ w2.cell? ⟨w.heap.size + 1, 2, none⟩ = some (.int .i64 k2) := ⟨hB2.cell 5, hK2.cell 0, hK2.cell 1, hK2.cell 2⟩
                      refine hK.out _ _ ?_ (fun hHeld => ?_)
                      · try dsimp only
                        first | exact S3 | exact S2 | exact S1 | go_keep
                      clear hK K
                      try simp only [Act.put, List.setIfInBounds_toArray, List.set_cons_zero, List.set_cons_succ]
                      refine wpAnyH_ready (rs := [10]) (by kernel_rfl) (by simp) ?_
                      refine AllReadyH.cons (o := _) (by simp only [List.getElem?_toArray, List.getElem?_cons_zero, List.getElem?_cons_succ]; rfl) (fun K hK => ?_) ?_
                      · skip
                        refine step_append_rows rfl _ _ 52 (by rfl) w1.heap.size 73 i7 _ 5 40 Try.underlying52 hi7 hz70 hz71 hz72 rfl (by decide) v1 _ _ (by rfl) (by first | exact hown1.alloc _ | exact hown1) 0 _ 1 (itemCells ⟨t, num, k0, k1, k2⟩) (by rfl) (by first | exact World.ownsRow_lit (base := 0) (size := 5) (e := 73) w2 #[.int .i64 t, .int .i64 num, .int .i64 k0, .int .i64 k1, .int .i64 k2] 1 (Nat.zero_le _) (by decide) rfl | exact ownsRow_fr hC2.drew (Fr.of_grown hgr1) (fun k hk e => by (have e1 := Option.some.inj hk); (have e2 := Option.some.inj e); (try simp at e1); (try simp at e2); omega) | exact ownsRow_fr ((World.ownsRow_lit (base := 0) (size := 5) (e := 73) w1 #[.int .i64 t, .int .i64 num, .int .i64 k0, .int .i64 k1, .int .i64 k2] 1 (Nat.zero_le _) (by decide) rfl).alloc _).drew (Fr.of_grown hgr1) (fun k hk e => by (have e1 := Option.some.inj hk); (have e2 := Option.some.inj e); (try simp at e1); (try simp at e2); omega)) (itemCells_one _) (by unfold maxLen; omega) (by omega) (by first | omega | (simp; omega)) ?_
                        intro v2 w3 hown2 hgr2 hat2
                        rw [Nat.zero_add] at hown2
                        have F2 : Fr (fun j => w1.heap.size ≤ j) w1 w3 := (by first | exact F1.trans (Fr.of_grown hgr2) (fun i _ e => (World.ownsRow.lt hown1 i e).1) | exact (F1.alloc _).trans (Fr.of_grown hgr2) (fun i _ e => (World.ownsRow.lt hown1 i e).1))
                        have hB3 := HB.out.fr F2 (by omega)
                        have hZ3 := HZ.out.fr F2 (by omega)
                        have hK3 := HK.out.fr F2 (by omega)
                        have S2 : w3.cell? ⟨w.heap.size, 5, none⟩ = some (.int .i64 num) ∧ w3.cell? ⟨w.heap.size + 1, 0, none⟩ = some (.int .i64 k0) ∧ w3.cell? ⟨w.heap.size + 1, 1, none⟩ = some (.int .i64 k1) ∧ w3.cell? ⟨w.heap.size + 1, 2, none⟩ = some (.int .i64 k2) := ⟨hB3.cell 5, hK3.cell 0, hK3.cell 1, hK3.cell 2⟩
                        obtain ⟨A4, c4, hv4⟩ := row_shape hown2
                        subst hv4
                        have y2 := hB3.cell 2
                        have g2 := hB3.frozen 2
                        simp only [List.getElem?_toArray, List.getElem?_cons_zero, List.getElem?_cons_succ] at y2
                        have hK4 := hK3.far (p := ⟨w.heap.size, 2, none⟩) (by show _ ≠ w.heap.size; omega) (.slice A4 (wait.length + 1) c4)
                        have hB4 := hB3.set_ 2 (.slice A4 (wait.length + 1) c4)
                        have S3 : (w3.setCell ⟨w.heap.size, 2, none⟩ (.slice A4 (wait.length + 1) c4)).cell? ⟨w.heap.size, 5, none⟩ = some (.int .i64 num) ∧ (w3.setCell ⟨w.heap.size, 2, none⟩ (.slice A4 (wait.length + 1) c4)).cell? ⟨w.heap.size + 1, 0, none⟩ = some (.int .i64 k0) ∧ (w3.setCell ⟨w.heap.size, 2, none⟩ (.slice A4 (wait.length + 1) c4)).cell? ⟨w.heap.size + 1, 1, none⟩ = some (.int .i64 k1) ∧ (w3.setCell ⟨w.heap.size, 2, none⟩ (.slice A4 (wait.length + 1) c4)).cell? ⟨w.heap.size + 1, 2, none⟩ = some (.int .i64 k2) := ⟨hB4.cell 5, hK4.cell 0, hK4.cell 1, hK4.cell 2⟩
                        refine hK.out _ _ ?_ (fun hHeld => ?_)
                        · try dsimp only
                          first | exact S3 | exact S2 | exact S1 | go_keep
                        clear hK K
                        try simp only [Act.put, List.setIfInBounds_toArray, List.set_cons_zero, List.set_cons_succ]
                        refine wpAnyH_take (i := 11) (oi := _) (v := ?_) (by simp only [List.getElem?_toArray, List.getElem?_cons_zero, List.getElem?_cons_succ]; rfl) (by kernel_rfl) (by kernel_rfl) (by kernel_rfl) (fun _ _ _ h => h) (Or.inl ⟨by rfl, ?_⟩) (by assumption) ?_
                        rotate_left
                        · intro w hSw
                          try dsimp only at hSw
                          go_simp
                          all_goals (with_reducible rfl)
                        try simp only [Act.put, List.setIfInBounds_toArray, List.set_cons_zero, List.set_cons_succ]
                        refine wpAnyH_ready (rs := [12]) (by kernel_rfl) (by simp) ?_
                        refine AllReadyH.cons (o := _) (by simp only [List.getElem?_toArray, List.getElem?_cons_zero, List.getElem?_cons_succ]; rfl) (fun K hK => ?_) ?_
                        · skip
                          go_simp
                          refine hK.out _ _ ?_ (fun hHeld => ?_)
                          · try dsimp only
                            first | exact S3 | exact S2 | exact S1 | go_keep
                          clear hK K
                          try simp only [Act.put, List.setIfInBounds_toArray, List.set_cons_zero, List.set_cons_succ]
                          refine wpAnyH_done (by kernel_rfl) ?_ _
                          refine NoPanic.normal ?_
                          go_wp2_with fail
                          go_meet
                          exact ⟨A4, c4, hB4, hZ3.far (p := ⟨w.heap.size, 2, none⟩) (by show _ ≠ w.heap.size; omega) _, ownsRow_fr (by rw [iCells_snoc] at hown2; exact hown2) ((Fr.refl (fun j => j = w.heap.size) w3).setCell ⟨w.heap.size, 2, none⟩ (fun _ => rfl) _) (fun j hj e => by have := (World.ownsRow.lt hown2 j hj).1; omega), (HF.out.trans F2 (fun i hi e => by omega)).setCell ⟨w.heap.size, 2, none⟩ (fun _ => Nat.le_refl _) _, (F2.mono (fun _ _ h => .inl h)).setCell ⟨w.heap.size, 2, none⟩ (fun _ => .inr rfl) _⟩
                        exact AllReadyH.nil
                      exact AllReadyH.nil
                    exact AllReadyH.nil
                  exact AllReadyH.nil
                exact AllReadyH.nil
              exact AllReadyH.nil
            case rest =>
              obtain ⟨A4, c4, hB, hZ, hw4, hF, hF1⟩ := hcut
              have hs4 := ownsRow_fr hs1 hF1 (fun j hj e => by have := (World.ownsRow.lt HM.out.seen j hj).2; omega)
              have hBx := hB.lt
              have hZx := hZ.lt
              have hszx := hF1.size
              obtain ⟨b0, b1, b2, b3, b4, b5, b6, b7⟩ := hB.cells8
              have HB2 := Lib.hid hB
              have HZ2 := Lib.hid hZ
              clear hB hZ
              have hlit := World.ownsRow_lit (base := wc.heap.size) (size := 1) (e := 3) wc #[] 0 (Nat.le_refl _) (by decide) rfl
              go_wp2_with (first
                | (at_builtin; refine wpList_append_rows rfl _ _ 39 rfl wc.heap.size 3 i3 _ 1 8 Try.underlying39 hi3 hz30 hz31 hz32 rfl (by decide) _ 0 [] (by rfl) hlit n0 (.slice A2 seen.length c2) seen.length (ints seen) (by rfl) (hs4.alloc _) (ints_one seen) (by unfold maxLen; omega) (by omega) (by simp) ?_; intro v1 w2 hown1 hgr1 hat1; have F1 : Fr (fun j => wc.heap.size ≤ j) wc w2 := ((Fr.refl _ wc).alloc _).trans (Fr.of_grown hgr1) (fun i _ e => by (have e2 : wc.heap.size = i := by injection e); omega); have hsz2 := F1.size)
                | (at_builtin; refine wpList_append_own_at _ rfl _ _ 39 rfl wc.heap.size 3 i3 (.int .i64 0) 1 8 Try.underlying39 hi3 hz30 hz31 hz32 rfl (by decide) v1 _ _ (by rfl) (hown1.alloc _) ⟨w2.heap.size, 0, none⟩ 1 1 [.int .i64 t] (by rfl) rfl (cell_one_new w2 _ _) (by intro u hu; simp at hu; subst hu; rfl) (by unfold maxLen; omega) (by omega) (by simp; omega) ?_; intro v2 w3 hown2 hgr2 _ hat2; rw [Nat.zero_add] at hown2; have F2 : Fr (fun j => wc.heap.size ≤ j) wc w3 := (F1.alloc _).trans (Fr.of_grown hgr2) (fun i _ e => (World.ownsRow.lt hown1 i e).1); have hB3 := HB2.out.fr F2 (by omega); have hZ3 := HZ2.out.fr F2 (by omega); obtain ⟨A5, c5, hv5⟩ := row_shape hown2; subst hv5; obtain ⟨b0, b1, b2, b3, b4, b5, b6, b7⟩ := hB3.cells8; obtain ⟨g0, g1, g2, g3, g4, g5, g6, g7⟩ := hB3.free8; obtain ⟨z0, z1, z2, z3, z4, z5, z6, z7⟩ := hZ3.cells8; obtain ⟨f0, f1, f2, f3, f4, f5, f6, f7⟩ := hZ3.free8))
              have Z4 := (hZ3.far (p := ⟨w.heap.size, 3, none⟩) (by show _ ≠ w.heap.size; omega) (.slice A5 (seen.length + 1) c5)).far (p := ⟨w.heap.size, 5, none⟩) (by show _ ≠ w.heap.size; omega) (.int .i64 (num + 1))
              have B8 := Z4.set8 rfl (.int .i64 lat) (.int .i64 room) (.slice A4 (wait.length + 1) c4) (.slice A5 (seen.length + 1) c5) (.slice A3 shown.length c3) (.int .i64 (num + 1)) (.int .i64 late) (.bool false)
              have F3 := hF.trans F2 (fun i hi e => by omega)
              have F4 := (F3.setCell ⟨w.heap.size, 3, none⟩ (fun _ => Nat.le_refl _) (.slice A5 (seen.length + 1) c5)).setCell ⟨w.heap.size, 5, none⟩ (fun _ => Nat.le_refl _) (.int .i64 (num + 1))
              have F5 := F4.trans B8.2 (fun i hi e => by omega)
              have FE := F5.shut (Nat.le_refl _)
              have G4 : Fr (fun j => j = w.heap.size ∨ j = w.heap.size + 2) w3 _ := (((Fr.refl _ w3).setCell ⟨w.heap.size, 3, none⟩ (fun _ => .inl rfl) (.slice A5 (seen.length + 1) c5)).setCell ⟨w.heap.size, 5, none⟩ (fun _ => .inl rfl) (.int .i64 (num + 1))).trans B8.2 (fun i hi e => .inr e)
              have hsE := row_base (ownsRow_fr hown2 G4 (fun j hj e => by have := (World.ownsRow.lt hown2 j hj).1; omega)) (B' := n0) (by omega)
              have hw5 := ownsRow_fr hw4 F2 (fun j hj e => by have := (World.ownsRow.lt hw4 j hj).2; omega)
              have hwE := row_base (ownsRow_fr hw5 G4 (fun j hj e => by have := (World.ownsRow.lt hw4 j hj).1; omega)) (B' := n0) (by omega)
              have MW := HM.out.frF FE
              refine bodyPost_ret (v := .tuple #[.agg (bCells lat room (.slice A4 (wait.length + 1) c4) (.slice A5 (seen.length + 1) c5) (.slice A3 shown.length c3) (num + 1) late false), .int .i64 0]) (results_row_tmp rfl _ _ (w.heap.size + 2) 54 _ (0, 0) _ rfl B8.1 Try.underlying54 rfl (by kernel_rfl) _ rfl) rfl ⟨_, _, by rw [HC.out, HR.out], ?_, FE⟩
              rw [HR.out]
              have e1 : (wait ++ [(⟨t, num, k0, k1, k2⟩ : Item)]).length = wait.length + 1 := by simp
              have e2 : (seen ++ [t]).length = seen.length + 1 := by simp
              have e3 : ints (seen ++ [t]) = [] ++ ints seen ++ [.int .i64 t] := by simp [ints]
              refine ⟨?_, ?_, MW.shown⟩
              · show World.ownsRow _ _ _ _ _ (wait ++ [(⟨t, num, k0, k1, k2⟩ : Item)]).length (iCells (wait ++ [(⟨t, num, k0, k1, k2⟩ : Item)]))
                rw [e1]
                exact hwE
              · show World.ownsRow _ _ _ _ _ (seen ++ [t]).length (ints (seen ++ [t]))
                rw [e2, e3]
                exact hsE
        | true =>
          have hnl : ¬ t < m := fun h => hlate ⟨rfl, h⟩
          have hd : decide (t < m) = false := decide_eq_false hnl
          have hnl2 : m ≤ t := by omega
          clear hlate hnl
          by_cases hfull : room ≤ (wait.length : Int)
          · have hfz := hfull
            have hc : rCode ⟨lat, room, wait, seen, shown, num, late, false⟩ t = 6 := by
              unfold rCode
              rw [HI.out, HMK.out, if_neg (by simp), if_neg (by simp), if_neg HL.out, if_pos hfull]
            have HR := Lib.hid (rp_no ⟨lat, room, wait, seen, shown, num, late, false⟩ t k0 k1 k2 (by rw [hc]; decide) (by rw [hc]; decide))
            have HC := Lib.hid hc
            clear hc
            go_wp2_with fail
            have F4 := HF.out
            have Z4 := HZ.out
            have B8 := Z4.set8 rfl (.int .i64 lat) (.int .i64 room) (.slice A1 wait.length c1) (.slice A2 seen.length c2) (.slice A3 shown.length c3) (.int .i64 num) (.int .i64 late) (.bool false)
            have F5 := F4.trans B8.2 (fun i hi e => by omega)
            have FE := F5.shut (Nat.le_refl _)
            refine bodyPost_ret (v := .tuple #[.agg (bCells lat room (.slice A1 wait.length c1) (.slice A2 seen.length c2) (.slice A3 shown.length c3) num late false), .int .i64 6]) (results_row_tmp rfl _ _ (w.heap.size + 2) 54 _ (0, 0) _ rfl B8.1 Try.underlying54 rfl (by kernel_rfl) _ rfl) rfl ⟨_, _, by rw [HC.out, HR.out], ?_, FE⟩
            rw [HR.out]
            exact ⟨(HM.out.frF FE).wait, (HM.out.frF FE).seen, (HM.out.frF FE).shown⟩
          · skip
            have hfn : (wait.length : Int) < room := by omega
            have hc : rCode ⟨lat, room, wait, seen, shown, num, late, false⟩ t = 0 := by
              unfold rCode
              rw [HI.out, HMK.out, if_neg (by simp), if_neg (by simp), if_neg HL.out, if_neg (by show ¬ room ≤ (wait.length : Int); omega)]
            have hr : rPush ⟨lat, room, wait, seen, shown, num, late, false⟩ t k0 k1 k2 = ⟨lat, room, wait ++ [⟨t, num, k0, k1, k2⟩], seen ++ [t], shown, num + 1, late, false⟩ := by unfold rPush; rw [if_neg (by rw [hc]; decide), if_pos hc]
            have HR := Lib.hid hr
            have HC := Lib.hid hc
            clear hc hr
            obtain ⟨nw, hnw⟩ : ∃ nw, nw = wait.length := ⟨_, rfl⟩
            obtain ⟨ns, hns⟩ : ∃ ns, ns = seen.length := ⟨_, rfl⟩
            have hw1 := ownsRow_fr HM.out.wait HF.out (fun j hj e => by have := (World.ownsRow.lt HM.out.wait j hj).2; omega)
            have hs1 := ownsRow_fr HM.out.seen HF.out (fun j hj e => by have := (World.ownsRow.lt HM.out.seen j hj).2; omega)
            simp only at hw1 hs1
            have hn2 : n0 ≤ w1.heap.size := by omega
            go_upto_region 11 with (fail)
            go_cut [] from 44 to 55 (fun wx => ∃ A4 c4, Blk wx w.heap.size 54 (bCells lat room (.slice A4 (wait.length + 1) c4) (.slice A2 seen.length c2) (.slice A3 shown.length c3) num late false) ∧ Blk wx (w.heap.size + 2) 54 zB ∧ wx.ownsRow w1.heap.size 73 5 (.slice A4 (wait.length + 1) c4) (wait.length + 1) (iCells (wait ++ [⟨t, num, k0, k1, k2⟩])) ∧ Fr (fun j => w.heap.size ≤ j) w wx ∧ Fr (fun j => w1.heap.size ≤ j ∨ j = w.heap.size) w1 wx)
            case first =>
              have hlA := World.ownsRow_lit (base := w1.heap.size) (size := 5) (e := 73) w1 #[] 0 (Nat.le_refl _) (by decide) rfl
              have hA2 := World.ownsRow_lit (base := w1.heap.size) (size := 5) (e := 73) (w1.alloc (.cells #[.int .i64 t, .int .i64 num, .int .i64 k0, .int .i64 k1, .int .i64 k2] 73)) #[] 0 (by simp) (by decide) rfl
              have eA2 : (w1.alloc (.cells #[.int .i64 t, .int .i64 num, .int .i64 k0, .int .i64 k1, .int .i64 k2] 73)).heap.size = w1.heap.size + 1 := by simp
              rw [eA2] at hA2
              have hC2 := World.ownsRow_lit (base := 0) (size := 5) (e := 73) (w1.alloc (.cells #[] 73)) #[.int .i64 t, .int .i64 num, .int .i64 k0, .int .i64 k1, .int .i64 k2] 1 (Nat.zero_le _) (by decide) rfl
              have eC2 : (w1.alloc (.cells #[] 73)).heap.size = w1.heap.size + 1 := by simp
              rw [eC2] at hC2
              clear eA2 eC2
              refine wp_region_noPanic ?_
              refine wp_region_held_drew (S := (fun w' => w'.cell? ⟨w.heap.size, 5, none⟩ = some (.int .i64 num) ∧ w'.cell? ⟨w.heap.size + 1, 0, none⟩ = some (.int .i64 k0) ∧ w'.cell? ⟨w.heap.size + 1, 1, none⟩ = some (.int .i64 k1) ∧ w'.cell? ⟨w.heap.size + 1, 2, none⟩ = some (.int .i64 k2))) (by kernel_rfl) ?_ (fun hHeld => ?_)
              · try dsimp only
                first | exact S3 | exact S2 | exact S1 | go_keep
              refine wpAnyH_take (i := 1) (oi := _) (v := ?_) (by simp only [List.getElem?_toArray, List.getElem?_cons_zero, List.getElem?_cons_succ]; rfl) (by kernel_rfl) (by kernel_rfl) (by kernel_rfl) (fun _ _ _ h => h) (Or.inl ⟨by rfl, ?_⟩) (by assumption) ?_
              rotate_left
              · intro w hSw
                try dsimp only at hSw
                go_simp
                all_goals (with_reducible rfl)
              try simp only [Act.put, List.setIfInBounds_toArray, List.set_cons_zero, List.set_cons_succ]
              refine wpAnyH_take (i := 4) (oi := _) (v := ?_) (by simp only [List.getElem?_toArray, List.getElem?_cons_zero, List.getElem?_cons_succ]; rfl) (by kernel_rfl) (by kernel_rfl) (by kernel_rfl) (fun _ _ _ h => h) (Or.inl ⟨by rfl, ?_⟩) (by assumption) ?_
              rotate_left
              · intro w hSw
                try dsimp only at hSw
                go_simp
                all_goals (with_reducible rfl)
              try simp only [Act.put, List.setIfInBounds_toArray, List.set_cons_zero, List.set_cons_succ]
              refine wpAnyH_take (i := 5) (oi := _) (v := ?_) (by simp only [List.getElem?_toArray, List.getElem?_cons_zero, List.getElem?_cons_succ]; rfl) (by kernel_rfl) (by kernel_rfl) (by kernel_rfl) (fun _ _ _ h => h) (Or.inl ⟨by rfl, ?_⟩) (by assumption) ?_
              rotate_left
              · intro w hSw
                try dsimp only at hSw
                go_simp
                all_goals (with_reducible rfl)
              try simp only [Act.put, List.setIfInBounds_toArray, List.set_cons_zero, List.set_cons_succ]
              refine wpAnyH_take (i := 6) (oi := _) (v := ?_) (by simp only [List.getElem?_toArray, List.getElem?_cons_zero, List.getElem?_cons_succ]; rfl) (by kernel_rfl) (by kernel_rfl) (by kernel_rfl) (fun _ _ _ h => h) (Or.inl ⟨by rfl, ?_⟩) (by assumption) ?_
              rotate_left
              · intro w hSw
                try dsimp only at hSw
                go_simp
                all_goals (with_reducible rfl)
              try simp only [Act.put, List.setIfInBounds_toArray, List.set_cons_zero, List.set_cons_succ]
              refine wpAnyH_take (i := 7) (oi := _) (v := ?_) (by simp only [List.getElem?_toArray, List.getElem?_cons_zero, List.getElem?_cons_succ]; rfl) (by kernel_rfl) (by kernel_rfl) (by kernel_rfl) (fun _ _ _ h => h) (Or.inl ⟨by rfl, ?_⟩) (by assumption) ?_
              rotate_left
              · intro w hSw
                try dsimp only at hSw
                go_simp
                all_goals (with_reducible rfl)
              try simp only [Act.put, List.setIfInBounds_toArray, List.set_cons_zero, List.set_cons_succ]
              refine wpAnyH_take (i := 8) (oi := _) (v := ?_) (by simp only [List.getElem?_toArray, List.getElem?_cons_zero, List.getElem?_cons_succ]; rfl) (by kernel_rfl) (by kernel_rfl) (by kernel_rfl) (fun _ _ _ h => h) (Or.inl ⟨by rfl, ?_⟩) (by assumption) ?_
              rotate_left
              · intro w hSw
                try dsimp only at hSw
                go_simp
                all_goals (with_reducible rfl)
              try simp only [Act.put, List.setIfInBounds_toArray, List.set_cons_zero, List.set_cons_succ]
              refine wpAnyH_ready (rs := [0, 2, 9]) (by kernel_rfl) (by simp) ?_
              refine AllReadyH.cons (o := _) (by simp only [List.getElem?_toArray, List.getElem?_cons_zero]; rfl) (fun K hK => ?_) ?_
              · skip
                go_simp
                refine hK.out _ _ ?_ (fun hHeld => ?_)
                · try dsimp only
                  first | exact S3 | exact S2 | exact S1 | go_keep
                clear hK K
                try simp only [Act.put, List.setIfInBounds_toArray, List.set_cons_zero, List.set_cons_succ]
                refine wpAnyH_ready (rs := [2, 9]) (by kernel_rfl) (by simp) ?_
                refine AllReadyH.cons (o := _) (by simp only [List.getElem?_toArray, List.getElem?_cons_zero, List.getElem?_cons_succ]; rfl) (fun K hK => ?_) ?_
                · skip
                  go_simp
                  refine hK.out _ _ ?_ (fun hHeld => ?_)
                  · try dsimp only
                    first | exact S3 | exact S2 | exact S1 | go_keep
                  clear hK K
                  try simp only [Act.put, List.setIfInBounds_toArray, List.set_cons_zero, List.set_cons_succ]
                  refine wpAnyH_ready (rs := [3, 9]) (by kernel_rfl) (by simp) ?_
                  refine AllReadyH.cons (o := _) (by simp only [List.getElem?_toArray, List.getElem?_cons_zero, List.getElem?_cons_succ]; rfl) (fun K hK => ?_) ?_
                  · skip
                    refine step_append_rows rfl _ _ 52 (by rfl) w1.heap.size 73 i7 _ 5 40 Try.underlying52 hi7 hz70 hz71 hz72 rfl (by decide) _ 0 [] (by rfl) (by first | exact hlA | exact hlA.alloc _ | exact hA2) n0 (.slice A1 wait.length c1) wait.length (iCells wait) (by rfl) (by first | exact hw1.alloc _ | exact (hw1.alloc _).alloc _) (iCells_one wait) (by unfold maxLen; omega) (by omega) (by first | (simp; done) | (simp; omega)) ?_
                    intro v1 w2 hown1 hgr1 hat1
                    have F1 : Fr (fun j => w1.heap.size ≤ j) w1 w2 := (by first | exact ((((Fr.refl _ w1).alloc _)).drew).trans (Fr.of_grown hgr1) (fun i _ e => by (have e2 := Option.some.inj e); (try simp at e2); omega) | exact (((((Fr.refl _ w1).alloc _)).alloc _).drew).trans (Fr.of_grown hgr1) (fun i _ e => by (have e2 := Option.some.inj e); (try simp at e2); omega))
                    have hsz2 := F1.size
                    have hB2 := HB.out.fr F1 (by omega)
                    have hK2 := HK.out.fr F1 (by omega)
                    have hBl2 := hB2.lt
                    have hKl2 := hK2.lt
                    have S1 : w2.cell? ⟨w.heap.size, 5, none⟩ = some (.int .i64 num) ∧ w2.cell? ⟨w.heap.size + 1, 0, none⟩ = some (.int .i64 k0) ∧ w2.cell? ⟨w.heap.size + 1, 1, none⟩ = some (.int .i64 k1) ∧ w2.cell? ⟨w.heap.size + 1, 2, none⟩ = some (.int .i64 k2) := ⟨hB2.cell 5, hK2.cell 0, hK2.cell 1, hK2.cell 2⟩
                    refine hK.out _ _ ?_ (fun hHeld => ?_)
                    · try dsimp only
                      first | exact S3 | exact S2 | exact S1 | go_keep
                    clear hK K
                    try simp only [Act.put, List.setIfInBounds_toArray, List.set_cons_zero, List.set_cons_succ]
                    refine wpAnyH_ready (rs := [9]) (by kernel_rfl) (by simp) ?_
                    refine AllReadyH.cons (o := _) (by simp only [List.getElem?_toArray, List.getElem?_cons_zero, List.getElem?_cons_succ]; rfl) (fun K hK => ?_) ?_
                    · skip
                      go_simp
                      refine hK.out _ _ ?_ (fun hHeld => ?_)
                      · try dsimp only
                        first | exact S3 | exact S2 | exact S1 | go_keep
                      clear hK K
                      try simp only [Act.put, List.setIfInBounds_toArray, List.set_cons_zero, List.set_cons_succ]
                      refine wpAnyH_ready (rs := [10]) (by kernel_rfl) (by simp) ?_
                      refine AllReadyH.cons (o := _) (by simp only [List.getElem?_toArray, List.getElem?_cons_zero, List.getElem?_cons_succ]; rfl) (fun K hK => ?_) ?_
                      · skip
                        refine step_append_rows rfl _ _ 52 (by rfl) w1.heap.size 73 i7 _ 5 40 Try.underlying52 hi7 hz70 hz71 hz72 rfl (by decide) v1 _ _ (by rfl) (by first | exact hown1.alloc _ | exact hown1) 0 _ 1 (itemCells ⟨t, num, k0, k1, k2⟩) (by rfl) (by first | exact World.ownsRow_lit (base := 0) (size := 5) (e := 73) w2 #[.int .i64 t, .int .i64 num, .int .i64 k0, .int .i64 k1, .int .i64 k2] 1 (Nat.zero_le _) (by decide) rfl | exact ownsRow_fr hC2.drew (Fr.of_grown hgr1) (fun k hk e => by (have e1 := Option.some.inj hk); (have e2 := Option.some.inj e); (try simp at e1); (try simp at e2); omega) | exact ownsRow_fr ((World.ownsRow_lit (base := 0) (size := 5) (e := 73) w1 #[.int .i64 t, .int .i64 num, .int .i64 k0, .int .i64 k1, .int .i64 k2] 1 (Nat.zero_le _) (by decide) rfl).alloc _).drew (Fr.of_grown hgr1) (fun k hk e => by (have e1 := Option.some.inj hk); (have e2 := Option.some.inj e); (try simp at e1); (try simp at e2); omega)) (itemCells_one _) (by unfold maxLen; omega) (by omega) (by first | omega | (simp; omega)) ?_
                        intro v2 w3 hown2 hgr2 hat2
                        rw [Nat.zero_add] at hown2
                        have F2 : Fr (fun j => w1.heap.size ≤ j) w1 w3 := (by first | exact F1.trans (Fr.of_grown hgr2) (fun i _ e => (World.ownsRow.lt hown1 i e).1) | exact (F1.alloc _).trans (Fr.of_grown hgr2) (fun i _ e => (World.ownsRow.lt hown1 i e).1))
                        have hB3 := HB.out.fr F2 (by omega)
                        have hZ3 := HZ.out.fr F2 (by omega)
                        have hK3 := HK.out.fr F2 (by omega)
                        have S2 : w3.cell? ⟨w.heap.size, 5, none⟩ = some (.int .i64 num) ∧ w3.cell? ⟨w.heap.size + 1, 0, none⟩ = some (.int .i64 k0) ∧ w3.cell? ⟨w.heap.size + 1, 1, none⟩ = some (.int .i64 k1) ∧ w3.cell? ⟨w.heap.size + 1, 2, none⟩ = some (.int .i64 k2) := ⟨hB3.cell 5, hK3.cell 0, hK3.cell 1, hK3.cell 2⟩
                        obtain ⟨A4, c4, hv4⟩ := row_shape hown2
                        subst hv4
                        have y2 := hB3.cell 2
                        have g2 := hB3.frozen 2
                        simp only [List.getElem?_toArray, List.getElem?_cons_zero, List.getElem?_cons_succ] at y2
                        have hK4 := hK3.far (p := ⟨w.heap.size, 2, none⟩) (by show _ ≠ w.heap.size; omega) (.slice A4 (wait.length + 1) c4)
                        have hB4 := hB3.set_ 2 (.slice A4 (wait.length + 1) c4)
                        have S3 : (w3.setCell ⟨w.heap.size, 2, none⟩ (.slice A4 (wait.length + 1) c4)).cell? ⟨w.heap.size, 5, none⟩ = some (.int .i64 num) ∧ (w3.setCell ⟨w.heap.size, 2, none⟩ (.slice A4 (wait.length + 1) c4)).cell? ⟨w.heap.size + 1, 0, none⟩ = some (.int .i64 k0) ∧ (w3.setCell ⟨w.heap.size, 2, none⟩ (.slice A4 (wait.length + 1) c4)).cell? ⟨w.heap.size + 1, 1, none⟩ = some (.int .i64 k1) ∧ (w3.setCell ⟨w.heap.size, 2, none⟩ (.slice A4 (wait.length + 1) c4)).cell? ⟨w.heap.size + 1, 2, none⟩ = some (.int .i64 k2) := ⟨hB4.cell 5, hK4.cell 0, hK4.cell 1, hK4.cell 2⟩
                        refine hK.out _ _ ?_ (fun hHeld => ?_)
                        · try dsimp only
                          first | exact S3 | exact S2 | exact S1 | go_keep
                        clear hK K
                        try simp only [Act.put, List.setIfInBounds_toArray, List.set_cons_zero, List.set_cons_succ]
                        refine wpAnyH_take (i := 11) (oi := _) (v := ?_) (by simp only [List.getElem?_toArray, List.getElem?_cons_zero, List.getElem?_cons_succ]; rfl) (by kernel_rfl) (by kernel_rfl) (by kernel_rfl) (fun _ _ _ h => h) (Or.inl ⟨by rfl, ?_⟩) (by assumption) ?_
                        rotate_left
                        · intro w hSw
                          try dsimp only at hSw
                          go_simp
                          all_goals (with_reducible rfl)
                        try simp only [Act.put, List.setIfInBounds_toArray, List.set_cons_zero, List.set_cons_succ]
                        refine wpAnyH_ready (rs := [12]) (by kernel_rfl) (by simp) ?_
                        refine AllReadyH.cons (o := _) (by simp only [List.getElem?_toArray, List.getElem?_cons_zero, List.getElem?_cons_succ]; rfl) (fun K hK => ?_) ?_
                        · skip
                          go_simp
                          refine hK.out _ _ ?_ (fun hHeld => ?_)
                          · try dsimp only
                            first | exact S3 | exact S2 | exact S1 | go_keep
                          clear hK K
                          try simp only [Act.put, List.setIfInBounds_toArray, List.set_cons_zero, List.set_cons_succ]
                          refine wpAnyH_done (by kernel_rfl) ?_ _
                          refine NoPanic.normal ?_
                          go_wp2_with fail
                          go_meet
                          exact ⟨A4, c4, hB4, hZ3.far (p := ⟨w.heap.size, 2, none⟩) (by show _ ≠ w.heap.size; omega) _, ownsRow_fr (by rw [iCells_snoc] at hown2; exact hown2) ((Fr.refl (fun j => j = w.heap.size) w3).setCell ⟨w.heap.size, 2, none⟩ (fun _ => rfl) _) (fun j hj e => by have := (World.ownsRow.lt hown2 j hj).1; omega), (HF.out.trans F2 (fun i hi e => by omega)).setCell ⟨w.heap.size, 2, none⟩ (fun _ => Nat.le_refl _) _, (F2.mono (fun _ _ h => .inl h)).setCell ⟨w.heap.size, 2, none⟩ (fun _ => .inr rfl) _⟩
                        exact AllReadyH.nil
                      exact AllReadyH.nil
                    exact AllReadyH.nil
                  refine AllReadyH.cons (o := _) (by simp only [List.getElem?_toArray, List.getElem?_cons_zero, List.getElem?_cons_succ]; rfl) (fun K hK => ?_) ?_
                  · skip
                    go_simp
                    refine hK.out _ _ ?_ (fun hHeld => ?_)
                    · try dsimp only
                      first | exact S3 | exact S2 | exact S1 | go_keep
                    clear hK K
                    try simp only [Act.put, List.setIfInBounds_toArray, List.set_cons_zero, List.set_cons_succ]
                    refine wpAnyH_ready (rs := [3]) (by kernel_rfl) (by simp) ?_
                    refine AllReadyH.cons (o := _) (by simp only [List.getElem?_toArray, List.getElem?_cons_zero, List.getElem?_cons_succ]; rfl) (fun K hK => ?_) ?_
                    · skip
                      refine step_append_rows rfl _ _ 52 (by rfl) w1.heap.size 73 i7 _ 5 40 Try.underlying52 hi7 hz70 hz71 hz72 rfl (by decide) _ 0 [] (by rfl) (by first | exact hlA | exact hlA.alloc _ | exact hA2) n0 (.slice A1 wait.length c1) wait.length (iCells wait) (by rfl) (by first | exact hw1.alloc _ | exact (hw1.alloc _).alloc _) (iCells_one wait) (by unfold maxLen; omega) (by omega) (by first | (simp; done) | (simp; omega)) ?_
                      intro v1 w2 hown1 hgr1 hat1
                      have F1 : Fr (fun j => w1.heap.size ≤ j) w1 w2 := (by first | exact ((((Fr.refl _ w1).alloc _)).drew).trans (Fr.of_grown hgr1) (fun i _ e => by (have e2 := Option.some.inj e); (try simp at e2); omega) | exact (((((Fr.refl _ w1).alloc _)).alloc _).drew).trans (Fr.of_grown hgr1) (fun i _ e => by (have e2 := Option.some.inj e); (try simp at e2); omega))
                      have hsz2 := F1.size
                      have hB2 := HB.out.fr F1 (by omega)
                      have hK2 := HK.out.fr F1 (by omega)
                      have hBl2 := hB2.lt
                      have hKl2 := hK2.lt
                      have S1 : w2.cell? ⟨w.heap.size, 5, none⟩ = some (.int .i64 num) ∧ w2.cell? ⟨w.heap.size + 1, 0, none⟩ = some (.int .i64 k0) ∧ w2.cell? ⟨w.heap.size + 1, 1, none⟩ = some (.int .i64 k1) ∧ w2.cell? ⟨w.heap.size + 1, 2, none⟩ = some (.int .i64 k2) := ⟨hB2.cell 5, hK2.cell 0, hK2.cell 1, hK2.cell 2⟩
                      refine hK.out _ _ ?_ (fun hHeld => ?_)
                      · try dsimp only
                        first | exact S3 | exact S2 | exact S1 | go_keep
                      clear hK K
                      try simp only [Act.put, List.setIfInBounds_toArray, List.set_cons_zero, List.set_cons_succ]
                      refine wpAnyH_ready (rs := [10]) (by kernel_rfl) (by simp) ?_
                      refine AllReadyH.cons (o := _) (by simp only [List.getElem?_toArray, List.getElem?_cons_zero, List.getElem?_cons_succ]; rfl) (fun K hK => ?_) ?_
                      · skip
                        refine step_append_rows rfl _ _ 52 (by rfl) w1.heap.size 73 i7 _ 5 40 Try.underlying52 hi7 hz70 hz71 hz72 rfl (by decide) v1 _ _ (by rfl) (by first | exact hown1.alloc _ | exact hown1) 0 _ 1 (itemCells ⟨t, num, k0, k1, k2⟩) (by rfl) (by first | exact World.ownsRow_lit (base := 0) (size := 5) (e := 73) w2 #[.int .i64 t, .int .i64 num, .int .i64 k0, .int .i64 k1, .int .i64 k2] 1 (Nat.zero_le _) (by decide) rfl | exact ownsRow_fr hC2.drew (Fr.of_grown hgr1) (fun k hk e => by (have e1 := Option.some.inj hk); (have e2 := Option.some.inj e); (try simp at e1); (try simp at e2); omega) | exact ownsRow_fr ((World.ownsRow_lit (base := 0) (size := 5) (e := 73) w1 #[.int .i64 t, .int .i64 num, .int .i64 k0, .int .i64 k1, .int .i64 k2] 1 (Nat.zero_le _) (by decide) rfl).alloc _).drew (Fr.of_grown hgr1) (fun k hk e => by (have e1 := Option.some.inj hk); (have e2 := Option.some.inj e); (try simp at e1); (try simp at e2); omega)) (itemCells_one _) (by unfold maxLen; omega) (by omega) (by first | omega | (simp; omega)) ?_
                        intro v2 w3 hown2 hgr2 hat2
                        rw [Nat.zero_add] at hown2
                        have F2 : Fr (fun j => w1.heap.size ≤ j) w1 w3 := (by first | exact F1.trans (Fr.of_grown hgr2) (fun i _ e => (World.ownsRow.lt hown1 i e).1) | exact (F1.alloc _).trans (Fr.of_grown hgr2) (fun i _ e => (World.ownsRow.lt hown1 i e).1))
                        have hB3 := HB.out.fr F2 (by omega)
                        have hZ3 := HZ.out.fr F2 (by omega)
                        have hK3 := HK.out.fr F2 (by omega)
                        have S2 : w3.cell? ⟨w.heap.size, 5, none⟩ = some (.int .i64 num) ∧ w3.cell? ⟨w.heap.size + 1, 0, none⟩ = some (.int .i64 k0) ∧ w3.cell? ⟨w.heap.size + 1, 1, none⟩ = some (.int .i64 k1) ∧ w3.cell? ⟨w.heap.size + 1, 2, none⟩ = some (.int .i64 k2) := ⟨hB3.cell 5, hK3.cell 0, hK3.cell 1, hK3.cell 2⟩
                        obtain ⟨A4, c4, hv4⟩ := row_shape hown2
                        subst hv4
                        have y2 := hB3.cell 2
                        have g2 := hB3.frozen 2
                        simp only [List.getElem?_toArray, List.getElem?_cons_zero, List.getElem?_cons_succ] at y2
                        have hK4 := hK3.far (p := ⟨w.heap.size, 2, none⟩) (by show _ ≠ w.heap.size; omega) (.slice A4 (wait.length + 1) c4)
                        have hB4 := hB3.set_ 2 (.slice A4 (wait.length + 1) c4)
                        have S3 : (w3.setCell ⟨w.heap.size, 2, none⟩ (.slice A4 (wait.length + 1) c4)).cell? ⟨w.heap.size, 5, none⟩ = some (.int .i64 num) ∧ (w3.setCell ⟨w.heap.size, 2, none⟩ (.slice A4 (wait.length + 1) c4)).cell? ⟨w.heap.size + 1, 0, none⟩ = some (.int .i64 k0) ∧ (w3.setCell ⟨w.heap.size, 2, none⟩ (.slice A4 (wait.length + 1) c4)).cell? ⟨w.heap.size + 1, 1, none⟩ = some (.int .i64 k1) ∧ (w3.setCell ⟨w.heap.size, 2, none⟩ (.slice A4 (wait.length + 1) c4)).cell? ⟨w.heap.size + 1, 2, none⟩ = some (.int .i64 k2) := ⟨hB4.cell 5, hK4.cell 0, hK4.cell 1, hK4.cell 2⟩
                        refine hK.out _ _ ?_ (fun hHeld => ?_)
                        · try dsimp only
                          first | exact S3 | exact S2 | exact S1 | go_keep
                        clear hK K
                        try simp only [Act.put, List.setIfInBounds_toArray, List.set_cons_zero, List.set_cons_succ]
                        refine wpAnyH_take (i := 11) (oi := _) (v := ?_) (by simp only [List.getElem?_toArray, List.getElem?_cons_zero, List.getElem?_cons_succ]; rfl) (by kernel_rfl) (by kernel_rfl) (by kernel_rfl) (fun _ _ _ h => h) (Or.inl ⟨by rfl, ?_⟩) (by assumption) ?_
                        rotate_left
                        · intro w hSw
                          try dsimp only at hSw
                          go_simp
                          all_goals (with_reducible rfl)
                        try simp only [Act.put, List.setIfInBounds_toArray, List.set_cons_zero, List.set_cons_succ]
                        refine wpAnyH_ready (rs := [12]) (by kernel_rfl) (by simp) ?_
                        refine AllReadyH.cons (o := _) (by simp only [List.getElem?_toArray, List.getElem?_cons_zero, List.getElem?_cons_succ]; rfl) (fun K hK => ?_) ?_
                        · skip
                          go_simp
                          refine hK.out _ _ ?_ (fun hHeld => ?_)
                          · try dsimp only
                            first | exact S3 | exact S2 | exact S1 | go_keep
                          clear hK K
                          try simp only [Act.put, List.setIfInBounds_toArray, List.set_cons_zero, List.set_cons_succ]
                          refine wpAnyH_done (by kernel_rfl) ?_ _
                          refine NoPanic.normal ?_
                          go_wp2_with fail
                          go_meet
                          exact ⟨A4, c4, hB4, hZ3.far (p := ⟨w.heap.size, 2, none⟩) (by show _ ≠ w.heap.size; omega) _, ownsRow_fr (by rw [iCells_snoc] at hown2; exact hown2) ((Fr.refl (fun j => j = w.heap.size) w3).setCell ⟨w.heap.size, 2, none⟩ (fun _ => rfl) _) (fun j hj e => by have := (World.ownsRow.lt hown2 j hj).1; omega), (HF.out.trans F2 (fun i hi e => by omega)).setCell ⟨w.heap.size, 2, none⟩ (fun _ => Nat.le_refl _) _, (F2.mono (fun _ _ h => .inl h)).setCell ⟨w.heap.size, 2, none⟩ (fun _ => .inr rfl) _⟩
                        exact AllReadyH.nil
                      exact AllReadyH.nil
                    exact AllReadyH.nil
                  exact AllReadyH.nil
                refine AllReadyH.cons (o := _) (by simp only [List.getElem?_toArray, List.getElem?_cons_zero, List.getElem?_cons_succ]; rfl) (fun K hK => ?_) ?_
                · skip
                  go_simp
                  refine hK.out _ _ ?_ (fun hHeld => ?_)
                  · try dsimp only
                    first | exact S3 | exact S2 | exact S1 | go_keep
                  clear hK K
                  try simp only [Act.put, List.setIfInBounds_toArray, List.set_cons_zero, List.set_cons_succ]
                  refine wpAnyH_ready (rs := [2]) (by kernel_rfl) (by simp) ?_
                  refine AllReadyH.cons (o := _) (by simp only [List.getElem?_toArray, List.getElem?_cons_zero, List.getElem?_cons_succ]; rfl) (fun K hK => ?_) ?_
                  · skip
                    go_simp
                    refine hK.out _ _ ?_ (fun hHeld => ?_)
                    · try dsimp only
                      first | exact S3 | exact S2 | exact S1 | go_keep
                    clear hK K
                    try simp only [Act.put, List.setIfInBounds_toArray, List.set_cons_zero, List.set_cons_succ]
                    refine wpAnyH_ready (rs := [3]) (by kernel_rfl) (by simp) ?_
                    refine AllReadyH.cons (o := _) (by simp only [List.getElem?_toArray, List.getElem?_cons_zero, List.getElem?_cons_succ]; rfl) (fun K hK => ?_) ?_
                    · skip
                      refine step_append_rows rfl _ _ 52 (by rfl) w1.heap.size 73 i7 _ 5 40 Try.underlying52 hi7 hz70 hz71 hz72 rfl (by decide) _ 0 [] (by rfl) (by first | exact hlA | exact hlA.alloc _ | exact hA2) n0 (.slice A1 wait.length c1) wait.length (iCells wait) (by rfl) (by first | exact hw1.alloc _ | exact (hw1.alloc _).alloc _) (iCells_one wait) (by unfold maxLen; omega) (by omega) (by first | (simp; done) | (simp; omega)) ?_
                      intro v1 w2 hown1 hgr1 hat1
                      have F1 : Fr (fun j => w1.heap.size ≤ j) w1 w2 := (by first | exact ((((Fr.refl _ w1).alloc _)).drew).trans (Fr.of_grown hgr1) (fun i _ e => by (have e2 := Option.some.inj e); (try simp at e2); omega) | exact (((((Fr.refl _ w1).alloc _)).alloc _).drew).trans (Fr.of_grown hgr1) (fun i _ e => by (have e2 := Option.some.inj e); (try simp at e2); omega))
                      have hsz2 := F1.size
                      have hB2 := HB.out.fr F1 (by omega)
                      have hK2 := HK.out.fr F1 (by omega)
                      have hBl2 := hB2.lt
                      have hKl2 := hK2.lt
                      have S1 : w2.cell? ⟨w.heap.size, 5, none⟩ = some (.int .i64 num) ∧ w2.cell? ⟨w.heap.size + 1, 0, none⟩ = some (.int .i64 k0) ∧ w2.cell? ⟨w.heap.size + 1, 1, none⟩ = some (.int .i64 k1) ∧ w2.cell? ⟨w.heap.size + 1, 2, none⟩ = some (.int .i64 k2) := ⟨hB2.cell 5, hK2.cell 0, hK2.cell 1, hK2.cell 2⟩
                      refine hK.out _ _ ?_ (fun hHeld => ?_)
                      · try dsimp only
                        first | exact S3 | exact S2 | exact S1 | go_keep
                      clear hK K
                      try simp only [Act.put, List.setIfInBounds_toArray, List.set_cons_zero, List.set_cons_succ]
                      refine wpAnyH_ready (rs := [10]) (by kernel_rfl) (by simp) ?_
                      refine AllReadyH.cons (o := _) (by simp only [List.getElem?_toArray, List.getElem?_cons_zero, List.getElem?_cons_succ]; rfl) (fun K hK => ?_) ?_
                      · skip
                        refine step_append_rows rfl _ _ 52 (by rfl) w1.heap.size 73 i7 _ 5 40 Try.underlying52 hi7 hz70 hz71 hz72 rfl (by decide) v1 _ _ (by rfl) (by first | exact hown1.alloc _ | exact hown1) 0 _ 1 (itemCells ⟨t, num, k0, k1, k2⟩) (by rfl) (by first | exact World.ownsRow_lit (base := 0) (size := 5) (e := 73) w2 #[.int .i64 t, .int .i64 num, .int .i64 k0, .int .i64 k1, .int .i64 k2] 1 (Nat.zero_le _) (by decide) rfl | exact ownsRow_fr hC2.drew (Fr.of_grown hgr1) (fun k hk e => by (have e1 := Option.some.inj hk); (have e2 := Option.some.inj e); (try simp at e1); (try simp at e2); omega) | exact ownsRow_fr ((World.ownsRow_lit (base := 0) (size := 5) (e := 73) w1 #[.int .i64 t, .int .i64 num, .int .i64 k0, .int .i64 k1, .int .i64 k2] 1 (Nat.zero_le _) (by decide) rfl).alloc _).drew (Fr.of_grown hgr1) (fun k hk e => by (have e1 := Option.some.inj hk); (have e2 := Option.some.inj e); (try simp at e1); (try simp at e2); omega)) (itemCells_one _) (by unfold maxLen; omega) (by omega) (by first | omega | (simp; omega)) ?_
                        intro v2 w3 hown2 hgr2 hat2
                        rw [Nat.zero_add] at hown2
                        have F2 : Fr (fun j => w1.heap.size ≤ j) w1 w3 := (by first | exact F1.trans (Fr.of_grown hgr2) (fun i _ e => (World.ownsRow.lt hown1 i e).1) | exact (F1.alloc _).trans (Fr.of_grown hgr2) (fun i _ e => (World.ownsRow.lt hown1 i e).1))
                        have hB3 := HB.out.fr F2 (by omega)
                        have hZ3 := HZ.out.fr F2 (by omega)
                        have hK3 := HK.out.fr F2 (by omega)
                        have S2 : w3.cell? ⟨w.heap.size, 5, none⟩ = some (.int .i64 num) ∧ w3.cell? ⟨w.heap.size + 1, 0, none⟩ = some (.int .i64 k0) ∧ w3.cell? ⟨w.heap.size + 1, 1, none⟩ = some (.int .i64 k1) ∧ w3.cell? ⟨w.heap.size + 1, 2, none⟩ = some (.int .i64 k2) := ⟨hB3.cell 5, hK3.cell 0, hK3.cell 1, hK3.cell 2⟩
                        obtain ⟨A4, c4, hv4⟩ := row_shape hown2
                        subst hv4
                        have y2 := hB3.cell 2
                        have g2 := hB3.frozen 2
                        simp only [List.getElem?_toArray, List.getElem?_cons_zero, List.getElem?_cons_succ] at y2
                        have hK4 := hK3.far (p := ⟨w.heap.size, 2, none⟩) (by show _ ≠ w.heap.size; omega) (.slice A4 (wait.length + 1) c4)
                        have hB4 := hB3.set_ 2 (.slice A4 (wait.length + 1) c4)
                        have S3 : (w3.setCell ⟨w.heap.size, 2, none⟩ (.slice A4 (wait.length + 1) c4)).cell? ⟨w.heap.size, 5, none⟩ = some (.int .i64 num) ∧ (w3.setCell ⟨w.heap.size, 2, none⟩ (.slice A4 (wait.length + 1) c4)).cell? ⟨w.heap.size + 1, 0, none⟩ = some (.int .i64 k0) ∧ (w3.setCell ⟨w.heap.size, 2, none⟩ (.slice A4 (wait.length + 1) c4)).cell? ⟨w.heap.size + 1, 1, none⟩ = some (.int .i64 k1) ∧ (w3.setCell ⟨w.heap.size, 2, none⟩ (.slice A4 (wait.length + 1) c4)).cell? ⟨w.heap.size + 1, 2, none⟩ = some (.int .i64 k2) := ⟨hB4.cell 5, hK4.cell 0, hK4.cell 1, hK4.cell 2⟩
                        refine hK.out _ _ ?_ (fun hHeld => ?_)
                        · try dsimp only
                          first | exact S3 | exact S2 | exact S1 | go_keep
                        clear hK K
                        try simp only [Act.put, List.setIfInBounds_toArray, List.set_cons_zero, List.set_cons_succ]
                        refine wpAnyH_take (i := 11) (oi := _) (v := ?_) (by simp only [List.getElem?_toArray, List.getElem?_cons_zero, List.getElem?_cons_succ]; rfl) (by kernel_rfl) (by kernel_rfl) (by kernel_rfl) (fun _ _ _ h => h) (Or.inl ⟨by rfl, ?_⟩) (by assumption) ?_
                        rotate_left
                        · intro w hSw
                          try dsimp only at hSw
                          go_simp
                          all_goals (with_reducible rfl)
                        try simp only [Act.put, List.setIfInBounds_toArray, List.set_cons_zero, List.set_cons_succ]
                        refine wpAnyH_ready (rs := [12]) (by kernel_rfl) (by simp) ?_
                        refine AllReadyH.cons (o := _) (by simp only [List.getElem?_toArray, List.getElem?_cons_zero, List.getElem?_cons_succ]; rfl) (fun K hK => ?_) ?_
                        · skip
                          go_simp
                          refine hK.out _ _ ?_ (fun hHeld => ?_)
                          · try dsimp only
                            first | exact S3 | exact S2 | exact S1 | go_keep
                          clear hK K
                          try simp only [Act.put, List.setIfInBounds_toArray, List.set_cons_zero, List.set_cons_succ]
                          refine wpAnyH_done (by kernel_rfl) ?_ _
                          refine NoPanic.normal ?_
                          go_wp2_with fail
                          go_meet
                          exact ⟨A4, c4, hB4, hZ3.far (p := ⟨w.heap.size, 2, none⟩) (by show _ ≠ w.heap.size; omega) _, ownsRow_fr (by rw [iCells_snoc] at hown2; exact hown2) ((Fr.refl (fun j => j = w.heap.size) w3).setCell ⟨w.heap.size, 2, none⟩ (fun _ => rfl) _) (fun j hj e => by have := (World.ownsRow.lt hown2 j hj).1; omega), (HF.out.trans F2 (fun i hi e => by omega)).setCell ⟨w.heap.size, 2, none⟩ (fun _ => Nat.le_refl _) _, (F2.mono (fun _ _ h => .inl h)).setCell ⟨w.heap.size, 2, none⟩ (fun _ => .inr rfl) _⟩
                        exact AllReadyH.nil
                      exact AllReadyH.nil
                    exact AllReadyH.nil
                  exact AllReadyH.nil
                exact AllReadyH.nil
              refine AllReadyH.cons (o := _) (by simp only [List.getElem?_toArray, List.getElem?_cons_zero, List.getElem?_cons_succ]; rfl) (fun K hK => ?_) ?_
              · skip
                go_simp
                refine hK.out _ _ ?_ (fun hHeld => ?_)
                · try dsimp only
                  first | exact S3 | exact S2 | exact S1 | go_keep
                clear hK K
                try simp only [Act.put, List.setIfInBounds_toArray, List.set_cons_zero, List.set_cons_succ]
                refine wpAnyH_ready (rs := [0, 9]) (by kernel_rfl) (by simp) ?_
                refine AllReadyH.cons (o := _) (by simp only [List.getElem?_toArray, List.getElem?_cons_zero]; rfl) (fun K hK => ?_) ?_
                · skip
                  go_simp
                  refine hK.out _ _ ?_ (fun hHeld => ?_)
                  · try dsimp only
                    first | exact S3 | exact S2 | exact S1 | go_keep
                  clear hK K
                  try simp only [Act.put, List.setIfInBounds_toArray, List.set_cons_zero, List.set_cons_succ]
                  refine wpAnyH_ready (rs := [3, 9]) (by kernel_rfl) (by simp) ?_
                  refine AllReadyH.cons (o := _) (by simp only [List.getElem?_toArray, List.getElem?_cons_zero, List.getElem?_cons_succ]; rfl) (fun K hK => ?_) ?_
                  · skip
                    refine step_append_rows rfl _ _ 52 (by rfl) w1.heap.size 73 i7 _ 5 40 Try.underlying52 hi7 hz70 hz71 hz72 rfl (by decide) _ 0 [] (by rfl) (by first | exact hlA | exact hlA.alloc _ | exact hA2) n0 (.slice A1 wait.length c1) wait.length (iCells wait) (by rfl) (by first | exact hw1.alloc _ | exact (hw1.alloc _).alloc _) (iCells_one wait) (by unfold maxLen; omega) (by omega) (by first | (simp; done) | (simp; omega)) ?_
                    intro v1 w2 hown1 hgr1 hat1
                    have F1 : Fr (fun j => w1.heap.size ≤ j) w1 w2 := (by first | exact ((((Fr.refl _ w1).alloc _)).drew).trans (Fr.of_grown hgr1) (fun i _ e => by (have e2 := Option.some.inj e); (try simp at e2); omega) | exact (((((Fr.refl _ w1).alloc _)).alloc _).drew).trans (Fr.of_grown hgr1) (fun i _ e => by (have e2 := Option.some.inj e); (try simp at e2); omega))
                    have hsz2 := F1.size
                    have hB2 := HB.out.fr F1 (by omega)
                    have hK2 := HK.out.fr F1 (by omega)
                    have hBl2 := hB2.lt
                    have hKl2 := hK2.lt
                    have S1 : w2.cell? ⟨w.heap.size, 5, none⟩ = some (.int .i64 num) ∧ w2.cell? ⟨w.heap.size + 1, 0, none⟩ = some (.int .i64 k0) ∧ w2.cell? ⟨w.heap.size + 1, 1, none⟩ = some (.int .i64 k1) ∧ w2.cell? ⟨w.heap.size + 1, 2, none⟩ = some (.int .i64 k2) := ⟨hB2.cell 5, hK2.cell 0, hK2.cell 1, hK2.cell 2⟩
                    refine hK.out _ _ ?_ (fun hHeld => ?_)
                    · try dsimp only
                      first | exact S3 | exact S2 | exact S1 | go_keep
                    clear hK K
                    try simp only [Act.put, List.setIfInBounds_toArray, List.set_cons_zero, List.set_cons_succ]
                    refine wpAnyH_ready (rs := [9]) (by kernel_rfl) (by simp) ?_
                    refine AllReadyH.cons (o := _) (by simp only [List.getElem?_toArray, List.getElem?_cons_zero, List.getElem?_cons_succ]; rfl) (fun K hK => ?_) ?_
                    · skip
                      go_simp
                      refine hK.out _ _ ?_ (fun hHeld => ?_)
                      · try dsimp only
                        first | exact S3 | exact S2 | exact S1 | go_keep
                      clear hK K
                      try simp only [Act.put, List.setIfInBounds_toArray, List.set_cons_zero, List.set_cons_succ]
                      refine wpAnyH_ready (rs := [10]) (by kernel_rfl) (by simp) ?_
                      refine AllReadyH.cons (o := _) (by simp only [List.getElem?_toArray, List.getElem?_cons_zero, List.getElem?_cons_succ]; rfl) (fun K hK => ?_) ?_
                      · skip
                        refine step_append_rows rfl _ _ 52 (by rfl) w1.heap.size 73 i7 _ 5 40 Try.underlying52 hi7 hz70 hz71 hz72 rfl (by decide) v1 _ _ (by rfl) (by first | exact hown1.alloc _ | exact hown1) 0 _ 1 (itemCells ⟨t, num, k0, k1, k2⟩) (by rfl) (by first | exact World.ownsRow_lit (base := 0) (size := 5) (e := 73) w2 #[.int .i64 t, .int .i64 num, .int .i64 k0, .int .i64 k1, .int .i64 k2] 1 (Nat.zero_le _) (by decide) rfl | exact ownsRow_fr hC2.drew (Fr.of_grown hgr1) (fun k hk e => by (have e1 := Option.some.inj hk); (have e2 := Option.some.inj e); (try simp at e1); (try simp at e2); omega) | exact ownsRow_fr ((World.ownsRow_lit (base := 0) (size := 5) (e := 73) w1 #[.int .i64 t, .int .i64 num, .int .i64 k0, .int .i64 k1, .int .i64 k2] 1 (Nat.zero_le _) (by decide) rfl).alloc _).drew (Fr.of_grown hgr1) (fun k hk e => by (have e1 := Option.some.inj hk); (have e2 := Option.some.inj e); (try simp at e1); (try simp at e2); omega)) (itemCells_one _) (by unfold maxLen; omega) (by omega) (by first | omega | (simp; omega)) ?_
                        intro v2 w3 hown2 hgr2 hat2
                        rw [Nat.zero_add] at hown2
                        have F2 : Fr (fun j => w1.heap.size ≤ j) w1 w3 := (by first | exact F1.trans (Fr.of_grown hgr2) (fun i _ e => (World.ownsRow.lt hown1 i e).1) | exact (F1.alloc _).trans (Fr.of_grown hgr2) (fun i _ e => (World.ownsRow.lt hown1 i e).1))
                        have hB3 := HB.out.fr F2 (by omega)
                        have hZ3 := HZ.out.fr F2 (by omega)
                        have hK3 := HK.out.fr F2 (by omega)
                        have S2 : w3.cell? ⟨w.heap.size, 5, none⟩ = some (.int .i64 num) ∧ w3.cell? ⟨w.heap.size + 1, 0, none⟩ = some (.int .i64 k0) ∧ w3.cell? ⟨w.heap.size + 1, 1, none⟩ = some (.int .i64 k1) ∧ w3.cell? ⟨w.heap.size + 1, 2, none⟩ = some (.int .i64 k2) := ⟨hB3.cell 5, hK3.cell 0, hK3.cell 1, hK3.cell 2⟩
                        obtain ⟨A4, c4, hv4⟩ := row_shape hown2
                        subst hv4
                        have y2 := hB3.cell 2
                        have g2 := hB3.frozen 2
                        simp only [List.getElem?_toArray, List.getElem?_cons_zero, List.getElem?_cons_succ] at y2
                        have hK4 := hK3.far (p := ⟨w.heap.size, 2, none⟩) (by show _ ≠ w.heap.size; omega) (.slice A4 (wait.length + 1) c4)
                        have hB4 := hB3.set_ 2 (.slice A4 (wait.length + 1) c4)
                        have S3 : (w3.setCell ⟨w.heap.size, 2, none⟩ (.slice A4 (wait.length + 1) c4)).cell? ⟨w.heap.size, 5, none⟩ = some (.int .i64 num) ∧ (w3.setCell ⟨w.heap.size, 2, none⟩ (.slice A4 (wait.length + 1) c4)).cell? ⟨w.heap.size + 1, 0, none⟩ = some (.int .i64 k0) ∧ (w3.setCell ⟨w.heap.size, 2, none⟩ (.slice A4 (wait.length + 1) c4)).cell? ⟨w.heap.size + 1, 1, none⟩ = some (.int .i64 k1) ∧ (w3.setCell ⟨w.heap.size, 2, none⟩ (.slice A4 (wait.length + 1) c4)).cell? ⟨w.heap.size + 1, 2, none⟩ = some (.int .i64 k2) := ⟨hB4.cell 5, hK4.cell 0, hK4.cell 1, hK4.cell 2⟩
                        refine hK.out _ _ ?_ (fun hHeld => ?_)
                        · try dsimp only
                          first | exact S3 | exact S2 | exact S1 | go_keep
                        clear hK K
                        try simp only [Act.put, List.setIfInBounds_toArray, List.set_cons_zero, List.set_cons_succ]
                        refine wpAnyH_take (i := 11) (oi := _) (v := ?_) (by simp only [List.getElem?_toArray, List.getElem?_cons_zero, List.getElem?_cons_succ]; rfl) (by kernel_rfl) (by kernel_rfl) (by kernel_rfl) (fun _ _ _ h => h) (Or.inl ⟨by rfl, ?_⟩) (by assumption) ?_
                        rotate_left
                        · intro w hSw
                          try dsimp only at hSw
                          go_simp
                          all_goals (with_reducible rfl)
                        try simp only [Act.put, List.setIfInBounds_toArray, List.set_cons_zero, List.set_cons_succ]
                        refine wpAnyH_ready (rs := [12]) (by kernel_rfl) (by simp) ?_
                        refine AllReadyH.cons (o := _) (by simp only [List.getElem?_toArray, List.getElem?_cons_zero, List.getElem?_cons_succ]; rfl) (fun K hK => ?_) ?_
                        · skip
                          go_simp
                          refine hK.out _ _ ?_ (fun hHeld => ?_)
                          · try dsimp only
                            first | exact S3 | exact S2 | exact S1 | go_keep
                          clear hK K
                          try simp only [Act.put, List.setIfInBounds_toArray, List.set_cons_zero, List.set_cons_succ]
                          refine wpAnyH_done (by kernel_rfl) ?_ _
                          refine NoPanic.normal ?_
                          go_wp2_with fail
                          go_meet
                          exact ⟨A4, c4, hB4, hZ3.far (p := ⟨w.heap.size, 2, none⟩) (by show _ ≠ w.heap.size; omega) _, ownsRow_fr (by rw [iCells_snoc] at hown2; exact hown2) ((Fr.refl (fun j => j = w.heap.size) w3).setCell ⟨w.heap.size, 2, none⟩ (fun _ => rfl) _) (fun j hj e => by have := (World.ownsRow.lt hown2 j hj).1; omega), (HF.out.trans F2 (fun i hi e => by omega)).setCell ⟨w.heap.size, 2, none⟩ (fun _ => Nat.le_refl _) _, (F2.mono (fun _ _ h => .inl h)).setCell ⟨w.heap.size, 2, none⟩ (fun _ => .inr rfl) _⟩
                        exact AllReadyH.nil
                      exact AllReadyH.nil
                    exact AllReadyH.nil
                  refine AllReadyH.cons (o := _) (by simp only [List.getElem?_toArray, List.getElem?_cons_zero, List.getElem?_cons_succ]; rfl) (fun K hK => ?_) ?_
                  · skip
                    go_simp
                    refine hK.out _ _ ?_ (fun hHeld => ?_)
                    · try dsimp only
                      first | exact S3 | exact S2 | exact S1 | go_keep
                    clear hK K
                    try simp only [Act.put, List.setIfInBounds_toArray, List.set_cons_zero, List.set_cons_succ]
                    refine wpAnyH_ready (rs := [3]) (by kernel_rfl) (by simp) ?_
                    refine AllReadyH.cons (o := _) (by simp only [List.getElem?_toArray, List.getElem?_cons_zero, List.getElem?_cons_succ]; rfl) (fun K hK => ?_) ?_
                    · skip
                      refine step_append_rows rfl _ _ 52 (by rfl) w1.heap.size 73 i7 _ 5 40 Try.underlying52 hi7 hz70 hz71 hz72 rfl (by decide) _ 0 [] (by rfl) (by first | exact hlA | exact hlA.alloc _ | exact hA2) n0 (.slice A1 wait.length c1) wait.length (iCells wait) (by rfl) (by first | exact hw1.alloc _ | exact (hw1.alloc _).alloc _) (iCells_one wait) (by unfold maxLen; omega) (by omega) (by first | (simp; done) | (simp; omega)) ?_
                      intro v1 w2 hown1 hgr1 hat1
                      have F1 : Fr (fun j => w1.heap.size ≤ j) w1 w2 := (by first | exact ((((Fr.refl _ w1).alloc _)).drew).trans (Fr.of_grown hgr1) (fun i _ e => by (have e2 := Option.some.inj e); (try simp at e2); omega) | exact (((((Fr.refl _ w1).alloc _)).alloc _).drew).trans (Fr.of_grown hgr1) (fun i _ e => by (have e2 := Option.some.inj e); (try simp at e2); omega))
                      have hsz2 := F1.size
                      have hB2 := HB.out.fr F1 (by omega)
                      have hK2 := HK.out.fr F1 (by omega)
                      have hBl2 := hB2.lt
                      have hKl2 := hK2.lt
                      have S1 : w2.cell? ⟨w.heap.size, 5, none⟩ = some (.int .i64 num) ∧ w2.cell? ⟨w.heap.size + 1, 0, none⟩ = some (.int .i64 k0) ∧ w2.cell? ⟨w.heap.size + 1, 1, none⟩ = some (.int .i64 k1) ∧ w2.cell? ⟨w.heap.size + 1, 2, none⟩ = some (.int .i64 k2) := ⟨hB2.cell 5, hK2.cell 0, hK2.cell 1, hK2.cell 2⟩
                      refine hK.out _ _ ?_ (fun hHeld => ?_)
                      · try dsimp only
                        first | exact S3 | exact S2 | exact S1 | go_keep
                      clear hK K
                      try simp only [Act.put, List.setIfInBounds_toArray, List.set_cons_zero, List.set_cons_succ]
                      refine wpAnyH_ready (rs := [10]) (by kernel_rfl) (by simp) ?_
                      refine AllReadyH.cons (o := _) (by simp only [List.getElem?_toArray, List.getElem?_cons_zero, List.getElem?_cons_succ]; rfl) (fun K hK => ?_) ?_
                      · skip
                        refine step_append_rows rfl _ _ 52 (by rfl) w1.heap.size 73 i7 _ 5 40 Try.underlying52 hi7 hz70 hz71 hz72 rfl (by decide) v1 _ _ (by rfl) (by first | exact hown1.alloc _ | exact hown1) 0 _ 1 (itemCells ⟨t, num, k0, k1, k2⟩) (by rfl) (by first | exact World.ownsRow_lit (base := 0) (size := 5) (e := 73) w2 #[.int .i64 t, .int .i64 num, .int .i64 k0, .int .i64 k1, .int .i64 k2] 1 (Nat.zero_le _) (by decide) rfl | exact ownsRow_fr hC2.drew (Fr.of_grown hgr1) (fun k hk e => by (have e1 := Option.some.inj hk); (have e2 := Option.some.inj e); (try simp at e1); (try simp at e2); omega) | exact ownsRow_fr ((World.ownsRow_lit (base := 0) (size := 5) (e := 73) w1 #[.int .i64 t, .int .i64 num, .int .i64 k0, .int .i64 k1, .int .i64 k2] 1 (Nat.zero_le _) (by decide) rfl).alloc _).drew (Fr.of_grown hgr1) (fun k hk e => by (have e1 := Option.some.inj hk); (have e2 := Option.some.inj e); (try simp at e1); (try simp at e2); omega)) (itemCells_one _) (by unfold maxLen; omega) (by omega) (by first | omega | (simp; omega)) ?_
                        intro v2 w3 hown2 hgr2 hat2
                        rw [Nat.zero_add] at hown2
                        have F2 : Fr (fun j => w1.heap.size ≤ j) w1 w3 := (by first | exact F1.trans (Fr.of_grown hgr2) (fun i _ e => (World.ownsRow.lt hown1 i e).1) | exact (F1.alloc _).trans (Fr.of_grown hgr2) (fun i _ e => (World.ownsRow.lt hown1 i e).1))
                        have hB3 := HB.out.fr F2 (by omega)
                        have hZ3 := HZ.out.fr F2 (by omega)
                        have hK3 := HK.out.fr F2 (by omega)
                        have S2 : w3.cell? ⟨w.heap.size, 5, none⟩ = some (.int .i64 num) ∧ w3.cell? ⟨w.heap.size + 1, 0, none⟩ = some (.int .i64 k0) ∧ w3.cell? ⟨w.heap.size + 1, 1, none⟩ = some (.int .i64 k1) ∧ w3.cell? ⟨w.heap.size + 1, 2, none⟩ = some (.int .i64 k2) := ⟨hB3.cell 5, hK3.cell 0, hK3.cell 1, hK3.cell 2⟩
                        obtain ⟨A4, c4, hv4⟩ := row_shape hown2
                        subst hv4
                        have y2 := hB3.cell 2
                        have g2 := hB3.frozen 2
                        simp only [List.getElem?_toArray, List.getElem?_cons_zero, List.getElem?_cons_succ] at y2
                        have hK4 := hK3.far (p := ⟨w.heap.size, 2, none⟩) (by show _ ≠ w.heap.size; omega) (.slice A4 (wait.length + 1) c4)
                        have hB4 := hB3.set_ 2 (.slice A4 (wait.length + 1) c4)
                        have S3 : (w3.setCell ⟨w.heap.size, 2, none⟩ (.slice A4 (wait.length + 1) c4)).cell? ⟨w.heap.size, 5, none⟩ = some (.int .i64 num) ∧ (w3.setCell ⟨w.heap.size, 2, none⟩ (.slice A4 (wait.length + 1) c4)).cell? ⟨w.heap.size + 1, 0, none⟩ = some (.int .i64 k0) ∧ (w3.setCell ⟨w.heap.size, 2, none⟩ (.slice A4 (wait.length + 1) c4)).cell? ⟨w.heap.size + 1, 1, none⟩ = some (.int .i64 k1) ∧ (w3.setCell ⟨w.heap.size, 2, none⟩ (.slice A4 (wait.length + 1) c4)).cell? ⟨w.heap.size + 1, 2, none⟩ = some (.int .i64 k2) := ⟨hB4.cell 5, hK4.cell 0, hK4.cell 1, hK4.cell 2⟩
                        refine hK.out _ _ ?_ (fun hHeld => ?_)
                        · try dsimp only
                          first | exact S3 | exact S2 | exact S1 | go_keep
                        clear hK K
                        try simp only [Act.put, List.setIfInBounds_toArray, List.set_cons_zero, List.set_cons_succ]
                        refine wpAnyH_take (i := 11) (oi := _) (v := ?_) (by simp only [List.getElem?_toArray, List.getElem?_cons_zero, List.getElem?_cons_succ]; rfl) (by kernel_rfl) (by kernel_rfl) (by kernel_rfl) (fun _ _ _ h => h) (Or.inl ⟨by rfl, ?_⟩) (by assumption) ?_
                        rotate_left
                        · intro w hSw
                          try dsimp only at hSw
                          go_simp
                          all_goals (with_reducible rfl)
                        try simp only [Act.put, List.setIfInBounds_toArray, List.set_cons_zero, List.set_cons_succ]
                        refine wpAnyH_ready (rs := [12]) (by kernel_rfl) (by simp) ?_
                        refine AllReadyH.cons (o := _) (by simp only [List.getElem?_toArray, List.getElem?_cons_zero, List.getElem?_cons_succ]; rfl) (fun K hK => ?_) ?_
                        · skip
                          go_simp
                          refine hK.out _ _ ?_ (fun hHeld => ?_)
                          · try dsimp only
                            first | exact S3 | exact S2 | exact S1 | go_keep
                          clear hK K
                          try simp only [Act.put, List.setIfInBounds_toArray, List.set_cons_zero, List.set_cons_succ]
                          refine wpAnyH_done (by kernel_rfl) ?_ _
                          refine NoPanic.normal ?_
                          go_wp2_with fail
                          go_meet
                          exact ⟨A4, c4, hB4, hZ3.far (p := ⟨w.heap.size, 2, none⟩) (by show _ ≠ w.heap.size; omega) _, ownsRow_fr (by rw [iCells_snoc] at hown2; exact hown2) ((Fr.refl (fun j => j = w.heap.size) w3).setCell ⟨w.heap.size, 2, none⟩ (fun _ => rfl) _) (fun j hj e => by have := (World.ownsRow.lt hown2 j hj).1; omega), (HF.out.trans F2 (fun i hi e => by omega)).setCell ⟨w.heap.size, 2, none⟩ (fun _ => Nat.le_refl _) _, (F2.mono (fun _ _ h => .inl h)).setCell ⟨w.heap.size, 2, none⟩ (fun _ => .inr rfl) _⟩
                        exact AllReadyH.nil
                      exact AllReadyH.nil
                    exact AllReadyH.nil
                  exact AllReadyH.nil
                refine AllReadyH.cons (o := _) (by simp only [List.getElem?_toArray, List.getElem?_cons_zero, List.getElem?_cons_succ]; rfl) (fun K hK => ?_) ?_
                · skip
                  go_simp
                  refine hK.out _ _ ?_ (fun hHeld => ?_)
                  · try dsimp only
                    first | exact S3 | exact S2 | exact S1 | go_keep
                  clear hK K
                  try simp only [Act.put, List.setIfInBounds_toArray, List.set_cons_zero, List.set_cons_succ]
                  refine wpAnyH_ready (rs := [0]) (by kernel_rfl) (by simp) ?_
                  refine AllReadyH.cons (o := _) (by simp only [List.getElem?_toArray, List.getElem?_cons_zero]; rfl) (fun K hK => ?_) ?_
                  · skip
                    go_simp
                    refine hK.out _ _ ?_ (fun hHeld => ?_)
                    · try dsimp only
                      first | exact S3 | exact S2 | exact S1 | go_keep
                    clear hK K
                    try simp only [Act.put, List.setIfInBounds_toArray, List.set_cons_zero, List.set_cons_succ]
                    refine wpAnyH_ready (rs := [3]) (by kernel_rfl) (by simp) ?_
                    refine AllReadyH.cons (o := _) (by simp only [List.getElem?_toArray, List.getElem?_cons_zero, List.getElem?_cons_succ]; rfl) (fun K hK => ?_) ?_
                    · skip
                      refine step_append_rows rfl _ _ 52 (by rfl) w1.heap.size 73 i7 _ 5 40 Try.underlying52 hi7 hz70 hz71 hz72 rfl (by decide) _ 0 [] (by rfl) (by first | exact hlA | exact hlA.alloc _ | exact hA2) n0 (.slice A1 wait.length c1) wait.length (iCells wait) (by rfl) (by first | exact hw1.alloc _ | exact (hw1.alloc _).alloc _) (iCells_one wait) (by unfold maxLen; omega) (by omega) (by first | (simp; done) | (simp; omega)) ?_
                      intro v1 w2 hown1 hgr1 hat1
                      have F1 : Fr (fun j => w1.heap.size ≤ j) w1 w2 := (by first | exact ((((Fr.refl _ w1).alloc _)).drew).trans (Fr.of_grown hgr1) (fun i _ e => by (have e2 := Option.some.inj e); (try simp at e2); omega) | exact (((((Fr.refl _ w1).alloc _)).alloc _).drew).trans (Fr.of_grown hgr1) (fun i _ e => by (have e2 := Option.some.inj e); (try simp at e2); omega))
                      have hsz2 := F1.size
                      have hB2 := HB.out.fr F1 (by omega)
                      have hK2 := HK.out.fr F1 (by omega)
                      have hBl2 := hB2.lt
                      have hKl2 := hK2.lt
                      have S1 : w2.cell? ⟨w.heap.size, 5, none⟩ = some (.int .i64 num) ∧ w2.cell? ⟨w.heap.size + 1, 0, none⟩ = some (.int .i64 k0) ∧ w2.cell? ⟨w.heap.size + 1, 1, none⟩ = some (.int .i64 k1) ∧ w2.cell? ⟨w.heap.size + 1, 2, none⟩ = some (.int .i64 k2) := ⟨hB2.cell 5, hK2.cell 0, hK2.cell 1, hK2.cell 2⟩
                      refine hK.out _ _ ?_ (fun hHeld => ?_)
                      · try dsimp only
                        first | exact S3 | exact S2 | exact S1 | go_keep
                      clear hK K
                      try simp only [Act.put, List.setIfInBounds_toArray, List.set_cons_zero, List.set_cons_succ]
                      refine wpAnyH_ready (rs := [10]) (by kernel_rfl) (by simp) ?_
                      refine AllReadyH.cons (o := _) (by simp only [List.getElem?_toArray, List.getElem?_cons_zero, List.getElem?_cons_succ]; rfl) (fun K hK => ?_) ?_
                      · skip
                        refine step_append_rows rfl _ _ 52 (by rfl) w1.heap.size 73 i7 _ 5 40 Try.underlying52 hi7 hz70 hz71 hz72 rfl (by decide) v1 _ _ (by rfl) (by first | exact hown1.alloc _ | exact hown1) 0 _ 1 (itemCells ⟨t, num, k0, k1, k2⟩) (by rfl) (by first | exact World.ownsRow_lit (base := 0) (size := 5) (e := 73) w2 #[.int .i64 t, .int .i64 num, .int .i64 k0, .int .i64 k1, .int .i64 k2] 1 (Nat.zero_le _) (by decide) rfl | exact ownsRow_fr hC2.drew (Fr.of_grown hgr1) (fun k hk e => by (have e1 := Option.some.inj hk); (have e2 := Option.some.inj e); (try simp at e1); (try simp at e2); omega) | exact ownsRow_fr ((World.ownsRow_lit (base := 0) (size := 5) (e := 73) w1 #[.int .i64 t, .int .i64 num, .int .i64 k0, .int .i64 k1, .int .i64 k2] 1 (Nat.zero_le _) (by decide) rfl).alloc _).drew (Fr.of_grown hgr1) (fun k hk e => by (have e1 := Option.some.inj hk); (have e2 := Option.some.inj e); (try simp at e1); (try simp at e2); omega)) (itemCells_one _) (by unfold maxLen; omega) (by omega) (by first | omega | (simp; omega)) ?_
                        intro v2 w3 hown2 hgr2 hat2
                        rw [Nat.zero_add] at hown2
                        have F2 : Fr (fun j => w1.heap.size ≤ j) w1 w3 := (by first | exact F1.trans (Fr.of_grown hgr2) (fun i _ e => (World.ownsRow.lt hown1 i e).1) | exact (F1.alloc _).trans (Fr.of_grown hgr2) (fun i _ e => (World.ownsRow.lt hown1 i e).1))
                        have hB3 := HB.out.fr F2 (by omega)
                        have hZ3 := HZ.out.fr F2 (by omega)
                        have hK3 := HK.out.fr F2 (by omega)
                        have S2 : w3.cell? ⟨w.heap.size, 5, none⟩ = some (.int .i64 num) ∧ w3.cell? ⟨w.heap.size + 1, 0, none⟩ = some (.int .i64 k0) ∧ w3.cell? ⟨w.heap.size + 1, 1, none⟩ = some (.int .i64 k1) ∧ w3.cell? ⟨w.heap.size + 1, 2, none⟩ = some (.int .i64 k2) := ⟨hB3.cell 5, hK3.cell 0, hK3.cell 1, hK3.cell 2⟩
                        obtain ⟨A4, c4, hv4⟩ := row_shape hown2
                        subst hv4
                        have y2 := hB3.cell 2
                        have g2 := hB3.frozen 2
                        simp only [List.getElem?_toArray, List.getElem?_cons_zero, List.getElem?_cons_succ] at y2
                        have hK4 := hK3.far (p := ⟨w.heap.size, 2, none⟩) (by show _ ≠ w.heap.size; omega) (.slice A4 (wait.length + 1) c4)
                        have hB4 := hB3.set_ 2 (.slice A4 (wait.length + 1) c4)
                        have S3 : (w3.setCell ⟨w.heap.size, 2, none⟩ (.slice A4 (wait.length + 1) c4)).cell? ⟨w.heap.size, 5, none⟩ = some (.int .i64 num) ∧ (w3.setCell ⟨w.heap.size, 2, none⟩ (.slice A4 (wait.length + 1) c4)).cell? ⟨w.heap.size + 1, 0, none⟩ = some (.int .i64 k0) ∧ (w3.setCell ⟨w.heap.size, 2, none⟩ (.slice A4 (wait.length + 1) c4)).cell? ⟨w.heap.size + 1, 1, none⟩ = some (.int .i64 k1) ∧ (w3.setCell ⟨w.heap.size, 2, none⟩ (.slice A4 (wait.length + 1) c4)).cell? ⟨w.heap.size + 1, 2, none⟩ = some (.int .i64 k2) := ⟨hB4.cell 5, hK4.cell 0, hK4.cell 1, hK4.cell 2⟩
                        refine hK.out _ _ ?_ (fun hHeld => ?_)
                        · try dsimp only
                          first | exact S3 | exact S2 | exact S1 | go_keep
                        clear hK K
                        try simp only [Act.put, List.setIfInBounds_toArray, List.set_cons_zero, List.set_cons_succ]
                        refine wpAnyH_take (i := 11) (oi := _) (v := ?_) (by simp only [List.getElem?_toArray, List.getElem?_cons_zero, List.getElem?_cons_succ]; rfl) (by kernel_rfl) (by kernel_rfl) (by kernel_rfl) (fun _ _ _ h => h) (Or.inl ⟨by rfl, ?_⟩) (by assumption) ?_
                        rotate_left
                        · intro w hSw
                          try dsimp only at hSw
                          go_simp
                          all_goals (with_reducible rfl)
                        try simp only [Act.put, List.setIfInBounds_toArray, List.set_cons_zero, List.set_cons_succ]
                        refine wpAnyH_ready (rs := [12]) (by kernel_rfl) (by simp) ?_
                        refine AllReadyH.cons (o := _) (by simp only [List.getElem?_toArray, List.getElem?_cons_zero, List.getElem?_cons_succ]; rfl) (fun K hK => ?_) ?_
                        · skip
                          go_simp
                          refine hK.out _ _ ?_ (fun hHeld => ?_)
                          · try dsimp only
                            first | exact S3 | exact S2 | exact S1 | go_keep
                          clear hK K
                          try simp only [Act.put, List.setIfInBounds_toArray, List.set_cons_zero, List.set_cons_succ]
                          refine wpAnyH_done (by kernel_rfl) ?_ _
                          refine NoPanic.normal ?_
                          go_wp2_with fail
                          go_meet
                          exact ⟨A4, c4, hB4, hZ3.far (p := ⟨w.heap.size, 2, none⟩) (by show _ ≠ w.heap.size; omega) _, ownsRow_fr (by rw [iCells_snoc] at hown2; exact hown2) ((Fr.refl (fun j => j = w.heap.size) w3).setCell ⟨w.heap.size, 2, none⟩ (fun _ => rfl) _) (fun j hj e => by have := (World.ownsRow.lt hown2 j hj).1; omega), (HF.out.trans F2 (fun i hi e => by omega)).setCell ⟨w.heap.size, 2, none⟩ (fun _ => Nat.le_refl _) _, (F2.mono (fun _ _ h => .inl h)).setCell ⟨w.heap.size, 2, none⟩ (fun _ => .inr rfl) _⟩
                        exact AllReadyH.nil
                      exact AllReadyH.nil
                    exact AllReadyH.nil
                  exact AllReadyH.nil
                exact AllReadyH.nil
              refine AllReadyH.cons (o := _) (by simp only [List.getElem?_toArray, List.getElem?_cons_zero, List.getElem?_cons_succ]; rfl) (fun K hK => ?_) ?_
              · skip
                go_simp
                refine hK.out _ _ ?_ (fun hHeld => ?_)
                · try dsimp only
                  first | exact S3 | exact S2 | exact S1 | go_keep
                clear hK K
                try simp only [Act.put, List.setIfInBounds_toArray, List.set_cons_zero, List.set_cons_succ]
                refine wpAnyH_ready (rs := [0, 2]) (by kernel_rfl) (by simp) ?_
                refine AllReadyH.cons (o := _) (by simp only [List.getElem?_toArray, List.getElem?_cons_zero]; rfl) (fun K hK => ?_) ?_
                · skip
                  go_simp
                  refine hK.out _ _ ?_ (fun hHeld => ?_)
                  · try dsimp only
                    first | exact S3 | exact S2 | exact S1 | go_keep
                  clear hK K
                  try simp only [Act.put, List.setIfInBounds_toArray, List.set_cons_zero, List.set_cons_succ]
                  refine wpAnyH_ready (rs := [2]) (by kernel_rfl) (by simp) ?_
                  refine AllReadyH.cons (o := _) (by simp only [List.getElem?_toArray, List.getElem?_cons_zero, List.getElem?_cons_succ]; rfl) (fun K hK => ?_) ?_
                  · skip
                    go_simp
                    refine hK.out _ _ ?_ (fun hHeld => ?_)
                    · try dsimp only
                      first | exact S3 | exact S2 | exact S1 | go_keep
                    clear hK K
                    try simp only [Act.put, List.setIfInBounds_toArray, List.set_cons_zero, List.set_cons_succ]
                    refine wpAnyH_ready (rs := [3]) (by kernel_rfl) (by simp) ?_
                    refine AllReadyH.cons (o := _) (by simp only [List.getElem?_toArray, List.getElem?_cons_zero, List.getElem?_cons_succ]; rfl) (fun K hK => ?_) ?_
                    · skip
                      refine step_append_rows rfl _ _ 52 (by rfl) w1.heap.size 73 i7 _ 5 40 Try.underlying52 hi7 hz70 hz71 hz72 rfl (by decide) _ 0 [] (by rfl) (by first | exact hlA | exact hlA.alloc _ | exact hA2) n0 (.slice A1 wait.length c1) wait.length (iCells wait) (by rfl) (by first | exact hw1.alloc _ | exact (hw1.alloc _).alloc _) (iCells_one wait) (by unfold maxLen; omega) (by omega) (by first | (simp; done) | (simp; omega)) ?_
                      intro v1 w2 hown1 hgr1 hat1
                      have F1 : Fr (fun j => w1.heap.size ≤ j) w1 w2 := (by first | exact ((((Fr.refl _ w1).alloc _)).drew).trans (Fr.of_grown hgr1) (fun i _ e => by (have e2 := Option.some.inj e); (try simp at e2); omega) | exact (((((Fr.refl _ w1).alloc _)).alloc _).drew).trans (Fr.of_grown hgr1) (fun i _ e => by (have e2 := Option.some.inj e); (try simp at e2); omega))
                      have hsz2 := F1.size
                      have hB2 := HB.out.fr F1 (by omega)
                      have hK2 := HK.out.fr F1 (by omega)
                      have hBl2 := hB2.lt
                      have hKl2 := hK2.lt
                      have S1 : w2.cell? ⟨w.heap.size, 5, none⟩ = some (.int .i64 num) ∧ w2.cell? ⟨w.heap.size + 1, 0, none⟩ = some (.int .i64 k0) ∧ w2.cell? ⟨w.heap.size + 1, 1, none⟩ = some (.int .i64 k1) ∧ w2.cell? ⟨w.heap.size + 1, 2, none⟩ = some (.int .i64 k2) := ⟨hB2.cell 5, hK2.cell 0, hK2.cell 1, hK2.cell 2⟩
                      refine hK.out _ _ ?_ (fun hHeld => ?_)
                      · try dsimp only
                        first | exact S3 | exact S2 | exact S1 | go_keep
                      clear hK K
                      try simp only [Act.put, List.setIfInBounds_toArray, List.set_cons_zero, List.set_cons_succ]
                      refine wpAnyH_ready (rs := [10]) (by kernel_rfl) (by simp) ?_
                      refine AllReadyH.cons (o := _) (by simp only [List.getElem?_toArray, List.getElem?_cons_zero, List.getElem?_cons_succ]; rfl) (fun K hK => ?_) ?_
                      · skip
                        refine step_append_rows rfl _ _ 52 (by rfl) w1.heap.size 73 i7 _ 5 40 Try.underlying52 hi7 hz70 hz71 hz72 rfl (by decide) v1 _ _ (by rfl) (by first | exact hown1.alloc _ | exact hown1) 0 _ 1 (itemCells ⟨t, num, k0, k1, k2⟩) (by rfl) (by first | exact World.ownsRow_lit (base := 0) (size := 5) (e := 73) w2 #[.int .i64 t, .int .i64 num, .int .i64 k0, .int .i64 k1, .int .i64 k2] 1 (Nat.zero_le _) (by decide) rfl | exact ownsRow_fr hC2.drew (Fr.of_grown hgr1) (fun k hk e => by (have e1 := Option.some.inj hk); (have e2 := Option.some.inj e); (try simp at e1); (try simp at e2); omega) | exact ownsRow_fr ((World.ownsRow_lit (base := 0) (size := 5) (e := 73) w1 #[.int .i64 t, .int .i64 num, .int .i64 k0, .int .i64 k1, .int .i64 k2] 1 (Nat.zero_le _) (by decide) rfl).alloc _).drew (Fr.of_grown hgr1) (fun k hk e => by (have e1 := Option.some.inj hk); (have e2 := Option.some.inj e); (try simp at e1); (try simp at e2); omega)) (itemCells_one _) (by unfold maxLen; omega) (by omega) (by first | omega | (simp; omega)) ?_
                        intro v2 w3 hown2 hgr2 hat2
                        rw [Nat.zero_add] at hown2
                        have F2 : Fr (fun j => w1.heap.size ≤ j) w1 w3 := (by first | exact F1.trans (Fr.of_grown hgr2) (fun i _ e => (World.ownsRow.lt hown1 i e).1) | exact (F1.alloc _).trans (Fr.of_grown hgr2) (fun i _ e => (World.ownsRow.lt hown1 i e).1))
                        have hB3 := HB.out.fr F2 (by omega)
                        have hZ3 := HZ.out.fr F2 (by omega)
                        have hK3 := HK.out.fr F2 (by omega)
                        have S2 : w3.cell? ⟨w.heap.size, 5, none⟩ = some (.int .i64 num) ∧ w3.cell? ⟨w.heap.size + 1, 0, none⟩ = some (.int .i64 k0) ∧ w3.cell? ⟨w.heap.size + 1, 1, none⟩ = some (.int .i64 k1) ∧ w3.cell? ⟨w.heap.size + 1, 2, none⟩ = some (.int .i64 k2) := ⟨hB3.cell 5, hK3.cell 0, hK3.cell 1, hK3.cell 2⟩
                        obtain ⟨A4, c4, hv4⟩ := row_shape hown2
                        subst hv4
                        have y2 := hB3.cell 2
                        have g2 := hB3.frozen 2
                        simp only [List.getElem?_toArray, List.getElem?_cons_zero, List.getElem?_cons_succ] at y2
                        have hK4 := hK3.far (p := ⟨w.heap.size, 2, none⟩) (by show _ ≠ w.heap.size; omega) (.slice A4 (wait.length + 1) c4)
                        have hB4 := hB3.set_ 2 (.slice A4 (wait.length + 1) c4)
                        have S3 : (w3.setCell ⟨w.heap.size, 2, none⟩ (.slice A4 (wait.length + 1) c4)).cell? ⟨w.heap.size, 5, none⟩ = some (.int .i64 num) ∧ (w3.setCell ⟨w.heap.size, 2, none⟩ (.slice A4 (wait.length + 1) c4)).cell? ⟨w.heap.size + 1, 0, none⟩ = some (.int .i64 k0) ∧ (w3.setCell ⟨w.heap.size, 2, none⟩ (.slice A4 (wait.length + 1) c4)).cell? ⟨w.heap.size + 1, 1, none⟩ = some (.int .i64 k1) ∧ (w3.setCell ⟨w.heap.size, 2, none⟩ (.slice A4 (wait.length + 1) c4)).cell? ⟨w.heap.size + 1, 2, none⟩ = some (.int .i64 k2) := ⟨hB4.cell 5, hK4.cell 0, hK4.cell 1, hK4.cell 2⟩
                        refine hK.out _ _ ?_ (fun hHeld => ?_)
                        · try dsimp only
                          first | exact S3 | exact S2 | exact S1 | go_keep
                        clear hK K
                        try simp only [Act.put, List.setIfInBounds_toArray, List.set_cons_zero, List.set_cons_succ]
                        refine wpAnyH_take (i := 11) (oi := _) (v := ?_) (by simp only [List.getElem?_toArray, List.getElem?_cons_zero, List.getElem?_cons_succ]; rfl) (by kernel_rfl) (by kernel_rfl) (by kernel_rfl) (fun _ _ _ h => h) (Or.inl ⟨by rfl, ?_⟩) (by assumption) ?_
                        rotate_left
                        · intro w hSw
                          try dsimp only at hSw
                          go_simp
                          all_goals (with_reducible rfl)
                        try simp only [Act.put, List.setIfInBounds_toArray, List.set_cons_zero, List.set_cons_succ]
                        refine wpAnyH_ready (rs := [12]) (by kernel_rfl) (by simp) ?_
                        refine AllReadyH.cons (o := _) (by simp only [List.getElem?_toArray, List.getElem?_cons_zero, List.getElem?_cons_succ]; rfl) (fun K hK => ?_) ?_
                        · skip
                          go_simp
                          refine hK.out _ _ ?_ (fun hHeld => ?_)
                          · try dsimp only
                            first | exact S3 | exact S2 | exact S1 | go_keep
                          clear hK K
                          try simp only [Act.put, List.setIfInBounds_toArray, List.set_cons_zero, List.set_cons_succ]
                          refine wpAnyH_done (by kernel_rfl) ?_ _
                          refine NoPanic.normal ?_
                          go_wp2_with fail
                          go_meet
                          exact ⟨A4, c4, hB4, hZ3.far (p := ⟨w.heap.size, 2, none⟩) (by show _ ≠ w.heap.size; omega) _, ownsRow_fr (by rw [iCells_snoc] at hown2; exact hown2) ((Fr.refl (fun j => j = w.heap.size) w3).setCell ⟨w.heap.size, 2, none⟩ (fun _ => rfl) _) (fun j hj e => by have := (World.ownsRow.lt hown2 j hj).1; omega), (HF.out.trans F2 (fun i hi e => by omega)).setCell ⟨w.heap.size, 2, none⟩ (fun _ => Nat.le_refl _) _, (F2.mono (fun _ _ h => .inl h)).setCell ⟨w.heap.size, 2, none⟩ (fun _ => .inr rfl) _⟩
                        exact AllReadyH.nil
                      exact AllReadyH.nil
                    exact AllReadyH.nil
                  exact AllReadyH.nil
                refine AllReadyH.cons (o := _) (by simp only [List.getElem?_toArray, List.getElem?_cons_zero, List.getElem?_cons_succ]; rfl) (fun K hK => ?_) ?_
                · skip
                  go_simp
                  refine hK.out _ _ ?_ (fun hHeld => ?_)
                  · try dsimp only
                    first | exact S3 | exact S2 | exact S1 | go_keep
                  clear hK K
                  try simp only [Act.put, List.setIfInBounds_toArray, List.set_cons_zero, List.set_cons_succ]
                  refine wpAnyH_ready (rs := [0]) (by kernel_rfl) (by simp) ?_
                  refine AllReadyH.cons (o := _) (by simp only [List.getElem?_toArray, List.getElem?_cons_zero]; rfl) (fun K hK => ?_) ?_
                  · skip
                    go_simp
                    refine hK.out _ _ ?_ (fun hHeld => ?_)
                    · try dsimp only
                      first | exact S3 | exact S2 | exact S1 | go_keep
                    clear hK K
                    try simp only [Act.put, List.setIfInBounds_toArray, List.set_cons_zero, List.set_cons_succ]
                    refine wpAnyH_ready (rs := [3]) (by kernel_rfl) (by simp) ?_
                    refine AllReadyH.cons (o := _) (by simp only [List.getElem?_toArray, List.getElem?_cons_zero, List.getElem?_cons_succ]; rfl) (fun K hK => ?_) ?_
                    · skip
                      refine step_append_rows rfl _ _ 52 (by rfl) w1.heap.size 73 i7 _ 5 40 Try.underlying52 hi7 hz70 hz71 hz72 rfl (by decide) _ 0 [] (by rfl) (by first | exact hlA | exact hlA.alloc _ | exact hA2) n0 (.slice A1 wait.length c1) wait.length (iCells wait) (by rfl) (by first | exact hw1.alloc _ | exact (hw1.alloc _).alloc _) (iCells_one wait) (by unfold maxLen; omega) (by omega) (by first | (simp; done) | (simp; omega)) ?_
                      intro v1 w2 hown1 hgr1 hat1
                      have F1 : Fr (fun j => w1.heap.size ≤ j) w1 w2 := (by first | exact ((((Fr.refl _ w1).alloc _)).drew).trans (Fr.of_grown hgr1) (fun i _ e => by (have e2 := Option.some.inj e); (try simp at e2); omega) | exact (((((Fr.refl _ w1).alloc _)).alloc _).drew).trans (Fr.of_grown hgr1) (fun i _ e => by (have e2 := Option.some.inj e); (try simp at e2); omega))
                      have hsz2 := F1.size
                      have hB2 := HB.out.fr F1 (by omega)
                      have hK2 := HK.out.fr F1 (by omega)
                      have hBl2 := hB2.lt
                      have hKl2 := hK2.lt
                      have S1 : w2.cell? ⟨w.heap.size, 5, none⟩ = some (.int .i64 num) ∧ w2.cell? ⟨w.heap.size + 1, 0, none⟩ = some (.int .i64 k0) ∧ w2.cell? ⟨w.heap.size + 1, 1, none⟩ = some (.int .i64 k1) ∧ w2.cell? ⟨w.heap.size + 1, 2, none⟩ = some (.int .i64 k2) := ⟨hB2.cell 5, hK2.cell 0, hK2.cell 1, hK2.cell 2⟩
                      refine hK.out _ _ ?_ (fun hHeld => ?_)
                      · try dsimp only
                        first | exact S3 | exact S2 | exact S1 | go_keep
                      clear hK K
                      try simp only [Act.put, List.setIfInBounds_toArray, List.set_cons_zero, List.set_cons_succ]
                      refine wpAnyH_ready (rs := [10]) (by kernel_rfl) (by simp) ?_
                      refine AllReadyH.cons (o := _) (by simp only [List.getElem?_toArray, List.getElem?_cons_zero, List.getElem?_cons_succ]; rfl) (fun K hK => ?_) ?_
                      · skip
                        refine step_append_rows rfl _ _ 52 (by rfl) w1.heap.size 73 i7 _ 5 40 Try.underlying52 hi7 hz70 hz71 hz72 rfl (by decide) v1 _ _ (by rfl) (by first | exact hown1.alloc _ | exact hown1) 0 _ 1 (itemCells ⟨t, num, k0, k1, k2⟩) (by rfl) (by first | exact World.ownsRow_lit (base := 0) (size := 5) (e := 73) w2 #[.int .i64 t, .int .i64 num, .int .i64 k0, .int .i64 k1, .int .i64 k2] 1 (Nat.zero_le _) (by decide) rfl | exact ownsRow_fr hC2.drew (Fr.of_grown hgr1) (fun k hk e => by (have e1 := Option.some.inj hk); (have e2 := Option.some.inj e); (try simp at e1); (try simp at e2); omega) | exact ownsRow_fr ((World.ownsRow_lit (base := 0) (size := 5) (e := 73) w1 #[.int .i64 t, .int .i64 num, .int .i64 k0, .int .i64 k1, .int .i64 k2] 1 (Nat.zero_le _) (by decide) rfl).alloc _).drew (Fr.of_grown hgr1) (fun k hk e => by (have e1 := Option.some.inj hk); (have e2 := Option.some.inj e); (try simp at e1); (try simp at e2); omega)) (itemCells_one _) (by unfold maxLen; omega) (by omega) (by first | omega | (simp; omega)) ?_
                        intro v2 w3 hown2 hgr2 hat2
                        rw [Nat.zero_add] at hown2
                        have F2 : Fr (fun j => w1.heap.size ≤ j) w1 w3 := (by first | exact F1.trans (Fr.of_grown hgr2) (fun i _ e => (World.ownsRow.lt hown1 i e).1) | exact (F1.alloc _).trans (Fr.of_grown hgr2) (fun i _ e => (World.ownsRow.lt hown1 i e).1))
                        have hB3 := HB.out.fr F2 (by omega)
                        have hZ3 := HZ.out.fr F2 (by omega)
                        have hK3 := HK.out.fr F2 (by omega)
                        have S2 : w3.cell? ⟨w.heap.size, 5, none⟩ = some (.int .i64 num) ∧ w3.cell? ⟨w.heap.size + 1, 0, none⟩ = some (.int .i64 k0) ∧ w3.cell? ⟨w.heap.size + 1, 1, none⟩ = some (.int .i64 k1) ∧ w3.cell? ⟨w.heap.size + 1, 2, none⟩ = some (.int .i64 k2) := ⟨hB3.cell 5, hK3.cell 0, hK3.cell 1, hK3.cell 2⟩
                        obtain ⟨A4, c4, hv4⟩ := row_shape hown2
                        subst hv4
                        have y2 := hB3.cell 2
                        have g2 := hB3.frozen 2
                        simp only [List.getElem?_toArray, List.getElem?_cons_zero, List.getElem?_cons_succ] at y2
                        have hK4 := hK3.far (p := ⟨w.heap.size, 2, none⟩) (by show _ ≠ w.heap.size; omega) (.slice A4 (wait.length + 1) c4)
                        have hB4 := hB3.set_ 2 (.slice A4 (wait.length + 1) c4)
                        have S3 : (w3.setCell ⟨w.heap.size, 2, none⟩ (.slice A4 (wait.length + 1) c4)).cell? ⟨w.heap.size, 5, none⟩ = some (.int .i64 num) ∧ (w3.setCell ⟨w.heap.size, 2, none⟩ (.slice A4 (wait.length + 1) c4)).cell? ⟨w.heap.size + 1, 0, none⟩ = some (.int .i64 k0) ∧ (w3.setCell ⟨w.heap.size, 2, none⟩ (.slice A4 (wait.length + 1) c4)).cell? ⟨w.heap.size + 1, 1, none⟩ = some (.int .i64 k1) ∧ (w3.setCell ⟨w.heap.size, 2, none⟩ (.slice A4 (wait.length + 1) c4)).cell? ⟨w.heap.size + 1, 2, none⟩ = some (.int .i64 k2) := ⟨hB4.cell 5, hK4.cell 0, hK4.cell 1, hK4.cell 2⟩
                        refine hK.out _ _ ?_ (fun hHeld => ?_)
                        · try dsimp only
                          first | exact S3 | exact S2 | exact S1 | go_keep
                        clear hK K
                        try simp only [Act.put, List.setIfInBounds_toArray, List.set_cons_zero, List.set_cons_succ]
                        refine wpAnyH_take (i := 11) (oi := _) (v := ?_) (by simp only [List.getElem?_toArray, List.getElem?_cons_zero, List.getElem?_cons_succ]; rfl) (by kernel_rfl) (by kernel_rfl) (by kernel_rfl) (fun _ _ _ h => h) (Or.inl ⟨by rfl, ?_⟩) (by assumption) ?_
                        rotate_left
                        · intro w hSw
                          try dsimp only at hSw
                          go_simp
                          all_goals (with_reducible rfl)
                        try simp only [Act.put, List.setIfInBounds_toArray, List.set_cons_zero, List.set_cons_succ]
                        refine wpAnyH_ready (rs := [12]) (by kernel_rfl) (by simp) ?_
                        refine AllReadyH.cons (o := _) (by simp only [List.getElem?_toArray, List.getElem?_cons_zero, List.getElem?_cons_succ]; rfl) (fun K hK => ?_) ?_
                        · skip
                          go_simp
                          refine hK.out _ _ ?_ (fun hHeld => ?_)
                          · try dsimp only
                            first | exact S3 | exact S2 | exact S1 | go_keep
                          clear hK K
                          try simp only [Act.put, List.setIfInBounds_toArray, List.set_cons_zero, List.set_cons_succ]
                          refine wpAnyH_done (by kernel_rfl) ?_ _
                          refine NoPanic.normal ?_
                          go_wp2_with fail
                          go_meet
                          exact ⟨A4, c4, hB4, hZ3.far (p := ⟨w.heap.size, 2, none⟩) (by show _ ≠ w.heap.size; omega) _, ownsRow_fr (by rw [iCells_snoc] at hown2; exact hown2) ((Fr.refl (fun j => j = w.heap.size) w3).setCell ⟨w.heap.size, 2, none⟩ (fun _ => rfl) _) (fun j hj e => by have := (World.ownsRow.lt hown2 j hj).1; omega), (HF.out.trans F2 (fun i hi e => by omega)).setCell ⟨w.heap.size, 2, none⟩ (fun _ => Nat.le_refl _) _, (F2.mono (fun _ _ h => .inl h)).setCell ⟨w.heap.size, 2, none⟩ (fun _ => .inr rfl) _⟩
                        exact AllReadyH.nil
                      exact AllReadyH.nil
                    exact AllReadyH.nil
                  exact AllReadyH.nil
                exact AllReadyH.nil
              exact AllReadyH.nil
            case rest =>
              obtain ⟨A4, c4, hB, hZ, hw4, hF, hF1⟩ := hcut
              have hs4 := ownsRow_fr hs1 hF1 (fun j hj e => by have := (World.ownsRow.lt HM.out.seen j hj).2; omega)
              have hBx := hB.lt
              have hZx := hZ.lt
              have hszx := hF1.size
              obtain ⟨b0, b1, b2, b3, b4, b5, b6, b7⟩ := hB.cells8
              have HB2 := Lib.hid hB
              have HZ2 := Lib.hid hZ
              clear hB hZ
              have hlit := World.ownsRow_lit (base := wc.heap.size) (size := 1) (e := 3) wc #[] 0 (Nat.le_refl _) (by decide) rfl
              go_wp2_with (first
                | (at_builtin; refine wpList_append_rows rfl _ _ 39 rfl wc.heap.size 3 i3 _ 1 8 Try.underlying39 hi3 hz30 hz31 hz32 rfl (by decide) _ 0 [] (by rfl) hlit n0 (.slice A2 seen.length c2) seen.length (ints seen) (by rfl) (hs4.alloc _) (ints_one seen) (by unfold maxLen; omega) (by omega) (by simp) ?_; intro v1 w2 hown1 hgr1 hat1; have F1 : Fr (fun j => wc.heap.size ≤ j) wc w2 := ((Fr.refl _ wc).alloc _).trans (Fr.of_grown hgr1) (fun i _ e => by (have e2 : wc.heap.size = i := by injection e); omega); have hsz2 := F1.size)
                | (at_builtin; refine wpList_append_own_at _ rfl _ _ 39 rfl wc.heap.size 3 i3 (.int .i64 0) 1 8 Try.underlying39 hi3 hz30 hz31 hz32 rfl (by decide) v1 _ _ (by rfl) (hown1.alloc _) ⟨w2.heap.size, 0, none⟩ 1 1 [.int .i64 t] (by rfl) rfl (cell_one_new w2 _ _) (by intro u hu; simp at hu; subst hu; rfl) (by unfold maxLen; omega) (by omega) (by simp; omega) ?_; intro v2 w3 hown2 hgr2 _ hat2; rw [Nat.zero_add] at hown2; have F2 : Fr (fun j => wc.heap.size ≤ j) wc w3 := (F1.alloc _).trans (Fr.of_grown hgr2) (fun i _ e => (World.ownsRow.lt hown1 i e).1); have hB3 := HB2.out.fr F2 (by omega); have hZ3 := HZ2.out.fr F2 (by omega); obtain ⟨A5, c5, hv5⟩ := row_shape hown2; subst hv5; obtain ⟨b0, b1, b2, b3, b4, b5, b6, b7⟩ := hB3.cells8; obtain ⟨g0, g1, g2, g3, g4, g5, g6, g7⟩ := hB3.free8; obtain ⟨z0, z1, z2, z3, z4, z5, z6, z7⟩ := hZ3.cells8; obtain ⟨f0, f1, f2, f3, f4, f5, f6, f7⟩ := hZ3.free8))
              have Z4 := (hZ3.far (p := ⟨w.heap.size, 3, none⟩) (by show _ ≠ w.heap.size; omega) (.slice A5 (seen.length + 1) c5)).far (p := ⟨w.heap.size, 5, none⟩) (by show _ ≠ w.heap.size; omega) (.int .i64 (num + 1))
              have B8 := Z4.set8 rfl (.int .i64 lat) (.int .i64 room) (.slice A4 (wait.length + 1) c4) (.slice A5 (seen.length + 1) c5) (.slice A3 shown.length c3) (.int .i64 (num + 1)) (.int .i64 late) (.bool false)
              have F3 := hF.trans F2 (fun i hi e => by omega)
              have F4 := (F3.setCell ⟨w.heap.size, 3, none⟩ (fun _ => Nat.le_refl _) (.slice A5 (seen.length + 1) c5)).setCell ⟨w.heap.size, 5, none⟩ (fun _ => Nat.le_refl _) (.int .i64 (num + 1))
              have F5 := F4.trans B8.2 (fun i hi e => by omega)
              have FE := F5.shut (Nat.le_refl _)
              have G4 : Fr (fun j => j = w.heap.size ∨ j = w.heap.size + 2) w3 _ := (((Fr.refl _ w3).setCell ⟨w.heap.size, 3, none⟩ (fun _ => .inl rfl) (.slice A5 (seen.length + 1) c5)).setCell ⟨w.heap.size, 5, none⟩ (fun _ => .inl rfl) (.int .i64 (num + 1))).trans B8.2 (fun i hi e => .inr e)
              have hsE := row_base (ownsRow_fr hown2 G4 (fun j hj e => by have := (World.ownsRow.lt hown2 j hj).1; omega)) (B' := n0) (by omega)
              have hw5 := ownsRow_fr hw4 F2 (fun j hj e => by have := (World.ownsRow.lt hw4 j hj).2; omega)
              have hwE := row_base (ownsRow_fr hw5 G4 (fun j hj e => by have := (World.ownsRow.lt hw4 j hj).1; omega)) (B' := n0) (by omega)
              have MW := HM.out.frF FE
              refine bodyPost_ret (v := .tuple #[.agg (bCells lat room (.slice A4 (wait.length + 1) c4) (.slice A5 (seen.length + 1) c5) (.slice A3 shown.length c3) (num + 1) late false), .int .i64 0]) (results_row_tmp rfl _ _ (w.heap.size + 2) 54 _ (0, 0) _ rfl B8.1 Try.underlying54 rfl (by kernel_rfl) _ rfl) rfl ⟨_, _, by rw [HC.out, HR.out], ?_, FE⟩
              rw [HR.out]
              have e1 : (wait ++ [(⟨t, num, k0, k1, k2⟩ : Item)]).length = wait.length + 1 := by simp
              have e2 : (seen ++ [t]).length = seen.length + 1 := by simp
              have e3 : ints (seen ++ [t]) = [] ++ ints seen ++ [.int .i64 t] := by simp [ints]
              refine ⟨?_, ?_, MW.shown⟩
              · show World.ownsRow _ _ _ _ _ (wait ++ [(⟨t, num, k0, k1, k2⟩ : Item)]).length (iCells (wait ++ [(⟨t, num, k0, k1, k2⟩ : Item)]))
                rw [e1]
                exact hwE
              · show World.ownsRow _ _ _ _ _ (seen ++ [t]).length (ints (seen ++ [t]))
                rw [e2, e3]
                exact hsE

end Go.Proofs.Ytgcmdoinihehcaa

