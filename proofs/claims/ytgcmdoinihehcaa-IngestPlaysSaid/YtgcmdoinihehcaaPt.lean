/- The document's buffer: Tick walked. -/
import Derived.Test.YtgcmdoinihehcaaWk
import Derived.Test.YtgcmdoinihehcaaAc
import Derived.Test.YtgcmdoinihehcaaPn
import Derived.Deep.Cut
import Derived.WalkKit
import Derived.WalkLawsBesides
import Derived.WalkSpells
import Derived.Deep.QuietTactic
import Derived.BigRegion
import Derived.BigQuiet
import Derived.Lib.Hide
import Derived.Outline
import Derived.Deep.AppendLies
import Derived.Deep.RegionLaw
import Derived.Deep.RegionWith
import Derived.Deep.RegionHeld3
import Derived.Deep.LoopGhost
import Derived.Deep.DeepFit
import Derived.Laws.ResultCell
import Derived.Deep.MidRow
import Derived.StillTailTactics
import Derived.OpenShut
namespace Go.Proofs.Ytgcmdoinihehcaa
set_option linter.unusedVariables false
open Go.RowKit Go

theorem rt_no (lat room : Int) (wait : List Item) (seen shown : List Int) (num late t : Int) (closed : Bool) (h : rtCode ⟨lat, room, wait, seen, shown, num, late, closed⟩ t ≠ 0) : rTick ⟨lat, room, wait, seen, shown, num, late, closed⟩ t = ⟨lat, room, wait, seen, shown, num, late, closed⟩ := by
  unfold rTick
  rw [if_neg h]

set_option maxRecDepth 100000 in
set_option maxHeartbeats 8000000 in
theorem rtick_any (r : RB) (vw vs vc : Value) (n0 : Nat) (t : Int) (w : World) (hn : n0 ≤ w.heap.size) (hm : RMem w n0 r vw vs vc) (hlen : r.shown.length ≤ 1000) :
    Calls Try.prog 20 #[rAgg r vw vs vc, .int .i64 t] w fun e w' => ∃ vc', e = .returned (.tuple #[rAgg (rTick r t) vw vs vc', .int .i64 (rtCode r t)]) ∧ RMem w' n0 (rTick r t) vw vs vc' ∧ Fr (fun _ => False) w w' := by
  obtain ⟨i3, hi3, hz30, hz31, hz32⟩ := info_parts info_int
  obtain ⟨lat, room, wait, seen, shown, num, late, closed⟩ := r
  obtain ⟨A1, c1, hv1⟩ := row_shape hm.wait
  obtain ⟨A2, c2, hv2⟩ := row_shape hm.seen
  obtain ⟨A3, c3, hv3⟩ := row_shape hm.shown
  subst hv1 hv2 hv3
  have hlen : shown.length ≤ 1000 := hlen
  go_enter Try.func20, Try.ntmps20
  go_upto_if 8 with (fail)
  have hB : Blk ((w.alloc (.cells (bCells lat room (.slice A1 wait.length c1) (.slice A2 seen.length c2) (.slice A3 shown.length c3) num late closed) 54)).alloc (.cells zB 54)) w.heap.size 54 (bCells lat room (.slice A1 wait.length c1) (.slice A2 seen.length c2) (.slice A3 shown.length c3) num late closed) := (Blk.new w _ _).alloc _
  have hZ : Blk ((w.alloc (.cells (bCells lat room (.slice A1 wait.length c1) (.slice A2 seen.length c2) (.slice A3 shown.length c3) num late closed) 54)).alloc (.cells zB 54)) (w.heap.size + 1) 54 zB := by
    have := Blk.new (w.alloc (.cells (bCells lat room (.slice A1 wait.length c1) (.slice A2 seen.length c2) (.slice A3 shown.length c3) num late closed) 54)) 54 zB
    have e : (w.alloc (.cells (bCells lat room (.slice A1 wait.length c1) (.slice A2 seen.length c2) (.slice A3 shown.length c3) num late closed) 54)).heap.size = w.heap.size + 1 := by simp
    rw [e] at this
    exact this
  have hf0 : Fr (fun _ => False) w ((w.alloc (.cells (bCells lat room (.slice A1 wait.length c1) (.slice A2 seen.length c2) (.slice A3 shown.length c3) num late closed) 54)).alloc (.cells zB 54)) := ((Fr.refl _ _).alloc _).alloc _
  have hm0 := hm.frF hf0
  generalize ((w.alloc (.cells (bCells lat room (.slice A1 wait.length c1) (.slice A2 seen.length c2) (.slice A3 shown.length c3) num late closed) 54)).alloc (.cells zB 54)) = w0 at *
  have HF0 := Lib.hid hf0
  have hsz0 := hf0.size
  have HM0 := Lib.hid hm0
  have HM := Lib.hid hm
  have hBl := hB.lt
  have hZl := hZ.lt
  clear hf0 hm hm0
  have k0 := hB.cell 0
  have k1 := hB.cell 1
  have k2 := hB.cell 2
  have k3 := hB.cell 3
  have k4 := hB.cell 4
  have k5 := hB.cell 5
  have k6 := hB.cell 6
  have k7 := hB.cell 7
  have z0 := hZ.cell 0
  have f0 := hZ.frozen 0
  have z1 := hZ.cell 1
  have f1 := hZ.frozen 1
  have z2 := hZ.cell 2
  have f2 := hZ.frozen 2
  have z3 := hZ.cell 3
  have f3 := hZ.frozen 3
  have z4 := hZ.cell 4
  have f4 := hZ.frozen 4
  have z5 := hZ.cell 5
  have f5 := hZ.frozen 5
  have z6 := hZ.cell 6
  have f6 := hZ.frozen 6
  have z7 := hZ.cell 7
  have f7 := hZ.frozen 7
  simp only [List.getElem?_toArray, List.getElem?_cons_zero, List.getElem?_cons_succ] at k0 k1 k2 k3 k4 k5 k6 k7 z0 z1 z2 z3 z4 z5 z6 z7
  have HB := Lib.hid hB
  have HZ := Lib.hid hZ
  clear hB hZ
  have hne : ¬ w.heap.size = w.heap.size + 1 := by omega
  cases closed with
  | true =>
    have hc : rtCode ⟨lat, room, wait, seen, shown, num, late, true⟩ t = 14 := by unfold rtCode; rfl
    have HR := Lib.hid (rt_no lat room wait seen shown num late t true (by rw [hc]; decide))
    have HC := Lib.hid hc
    clear hc
    go_wp2_with fail
    have B8 := HZ.out.set8 rfl (.int .i64 lat) (.int .i64 room) (.slice A1 wait.length c1) (.slice A2 seen.length c2) (.slice A3 shown.length c3) (.int .i64 num) (.int .i64 late) (.bool true)
    have FE : Fr (fun _ => False) w _ := HF0.out.trans B8.2 (fun i hi e => by omega)
    refine bodyPost_ret (v := .tuple #[.agg (bCells lat room (.slice A1 wait.length c1) (.slice A2 seen.length c2) (.slice A3 shown.length c3) num late true), .int .i64 14]) (results_row_tmp rfl _ _ (w.heap.size + 1) 54 _ (0, 0) _ rfl B8.1 Try.underlying54 rfl (by kernel_rfl) _ rfl) rfl ⟨(.slice A3 shown.length c3), by rw [HC.out, HR.out], by rw [HR.out]; exact HM.out.frF FE, FE⟩
  | false =>
    go_wp2_with fail
    refine (rinst_any t w0).mono ?_
    rintro e w1 ⟨rfl, rfl⟩
    cases hi : inst t with
    | false =>
      have hc : rtCode ⟨lat, room, wait, seen, shown, num, late, false⟩ t = 2 := by unfold rtCode; rw [hi]; rfl
      have HR := Lib.hid (rt_no lat room wait seen shown num late t false (by rw [hc]; decide))
      have HC := Lib.hid hc
      clear hc hi
      go_wp2_with fail
      have B8 := HZ.out.set8 rfl (.int .i64 lat) (.int .i64 room) (.slice A1 wait.length c1) (.slice A2 seen.length c2) (.slice A3 shown.length c3) (.int .i64 num) (.int .i64 late) (.bool false)
      have FE : Fr (fun _ => False) w _ := HF0.out.trans B8.2 (fun i hi e => by omega)
      refine bodyPost_ret (v := .tuple #[.agg (bCells lat room (.slice A1 wait.length c1) (.slice A2 seen.length c2) (.slice A3 shown.length c3) num late false), .int .i64 2]) (results_row_tmp rfl _ _ (w.heap.size + 1) 54 _ (0, 0) _ rfl B8.1 Try.underlying54 rfl (by kernel_rfl) _ rfl) rfl ⟨(.slice A3 shown.length c3), by rw [HC.out, HR.out], by rw [HR.out]; exact HM.out.frF FE, FE⟩
    | true =>
      have HI := Lib.hid hi
      clear hi
      obtain ⟨n, hn9⟩ : ∃ n, n = shown.length := ⟨_, rfl⟩
      have HN := Lib.hid hn9
      have hn8 : n ≤ 1000 := by omega
      have hrow := HM0.out.shown
      simp only at hrow
      have hm2 := HM.out
      rw [← hn9] at hrow k4 hm2 ⊢
      have HM2 := Lib.hid hm2
      clear hm2
      clear hn9
      go_wp2_with fail
      go_loopw [17] (fun iv wr => ∃ (k : Nat), iv = .int .i64 (k : Int) ∧ k ≤ n ∧ (∀ i, i < k → ¬ t < shown.getD i 0) ∧ Fr (fun _ => False) w0 wr) (fun iv _ => n - (intOf iv).toNat)
      case atStart => exact ⟨0, rfl, Nat.zero_le _, by simp, Fr.refl _ _⟩
      case round =>
        obtain ⟨k, rfl, hk, hall, hfr⟩ := hrel
        have hZr := HZ.out.fr hfr (fun h => h)
        have hBr := HB.out.fr hfr (fun h => h)
        have hszr := hfr.size
        have hBlr : w.heap.size < wr.heap.size := by omega
        have hZlr : w.heap.size + 1 < wr.heap.size := by omega
        have hn2 : n0 ≤ wr.heap.size := by omega
        have hrowr := ownsRow_fr hrow hfr (fun _ _ h => h)
        clear k0 k1 k2 k3 k4 k5 k6 k7 z0 z1 z2 z3 z4 z5 z6 z7 f0 f1 f2 f3 f4 f5 f6 f7
        have k0 := hBr.cell 0
        have k1 := hBr.cell 1
        have k2 := hBr.cell 2
        have k3 := hBr.cell 3
        have k4 := hBr.cell 4
        have k5 := hBr.cell 5
        have k6 := hBr.cell 6
        have k7 := hBr.cell 7
        have z0 := hZr.cell 0
        have f0 := hZr.frozen 0
        have z1 := hZr.cell 1
        have f1 := hZr.frozen 1
        have z2 := hZr.cell 2
        have f2 := hZr.frozen 2
        have z3 := hZr.cell 3
        have f3 := hZr.frozen 3
        have z4 := hZr.cell 4
        have f4 := hZr.frozen 4
        have z5 := hZr.cell 5
        have f5 := hZr.frozen 5
        have z6 := hZr.cell 6
        have f6 := hZr.frozen 6
        have z7 := hZr.cell 7
        have f7 := hZr.frozen 7
        simp only [List.getElem?_toArray, List.getElem?_cons_zero, List.getElem?_cons_succ] at k0 k1 k2 k3 k4 k5 k6 k7 z0 z1 z2 z3 z4 z5 z6 z7
        have hns := HN.out
        rw [← hns] at k4
        have HZR := Lib.hid hZr
        have HBR := Lib.hid hBr
        have HALL := Lib.hid hall
        clear hZr hBr hall hns hrow
        by_cases hlt : k < n
        · obtain ⟨g, hg, -, hgl, hgc⟩ := row_form hrowr (by omega)
          subst hg
          have hel : wr.cell? ⟨g, k, none⟩ = some (.int .i64 (shown.getD k 0)) := by
            rw [World.ownsRow.cellAt hrowr k (by omega)]
            exact ints_get shown (by rw [← HN.out]; exact hlt)
          have hin : shown.getD k 0 ∈ shown := by
            rw [List.getD_eq_getElem?_getD, List.getElem?_eq_getElem (by rw [← HN.out]; exact hlt)]; simp
          obtain ⟨x, hx9⟩ : ∃ x, x = shown.getD k 0 := ⟨_, rfl⟩
          have HX := Lib.hid hx9
          rw [← hx9] at hel hin
          have hlt' : (k : Int) < (n : Int) := by omega
          have hkn : decide (n ≤ k) = false := decide_eq_false (by omega)
          have HIN := Lib.hid hin
          clear hx9 hin
          by_cases hx : t < x
          · have hc : rtCode ⟨lat, room, wait, seen, shown, num, late, false⟩ t = 8 := by
              unfold rtCode
              rw [HI.out]
              rw [if_neg (by simp), if_neg (by simp), if_pos ⟨x, HIN.out, hx⟩]
            have HR := Lib.hid (rt_no lat room wait seen shown num late t false (by rw [hc]; decide))
            have HC := Lib.hid hc
            clear hc
            go_wp2_with fail
            have B8 := HZR.out.set8 rfl (.int .i64 lat) (.int .i64 room) (.slice A1 wait.length c1) (.slice A2 seen.length c2) (.slice (some ⟨g, 0, none⟩) n c3) (.int .i64 num) (.int .i64 late) (.bool false)
            have FE : Fr (fun _ => False) w _ := (HF0.out.trans' hfr).trans B8.2 (fun i hi e => by omega)
            refine bodyPost_ret (v := .tuple #[.agg (bCells lat room (.slice A1 wait.length c1) (.slice A2 seen.length c2) (.slice (some ⟨g, 0, none⟩) n c3) num late false), .int .i64 8]) (results_row_tmp rfl _ _ (w.heap.size + 1) 54 _ (0, 0) _ rfl B8.1 Try.underlying54 rfl (by kernel_rfl) _ rfl) rfl ⟨(.slice (some ⟨g, 0, none⟩) n c3), by rw [HC.out, HR.out], by rw [HR.out]; exact HM2.out.frF FE, FE⟩
          · have hx' : x ≤ t := by omega
            go_wp2_with fail
            go_roundw
            case rel =>
              refine ⟨k + 1, by go_num, by omega, fun i hi => ?_, hfr⟩
              by_cases hik : i = k
              · subst hik
                rw [← HX.out]
                exact hx
              · exact HALL.out i (by omega)
            case measure => simp [intOf]; omega
        · have hkn : k = n := by omega
          subst hkn
          have hge : (k : Int) ≤ (k : Int) := Int.le_refl _
          have hc : rtCode ⟨lat, room, wait, seen, shown, num, late, false⟩ t = 0 := by
            unfold rtCode
            rw [HI.out]
            rw [if_neg (by simp), if_neg (by simp), if_neg]
            rintro ⟨x, hx, hlt⟩
            obtain ⟨i, hi, rfl⟩ := List.mem_iff_getElem.1 hx
            have := HALL.out i (by rw [HN.out]; exact hi)
            rw [List.getD_eq_getElem?_getD, List.getElem?_eq_getElem hi] at this
            exact this hlt
          have hr : rTick ⟨lat, room, wait, seen, shown, num, late, false⟩ t = ⟨lat, room, wait, seen, shown ++ [t], num, late, false⟩ := by
            unfold rTick
            rw [if_pos hc]
          have HR := Lib.hid hr
          have HC := Lib.hid hc
          clear hc hr
          have hlit := World.ownsRow_lit (base := wr.heap.size) (size := 1) (e := 3) wr #[] 0 (Nat.le_refl _) (by decide) rfl
          have hlen2 : shown.length = k := HN.out.symm
          have HL2 := Lib.hid hlen2
          clear hlen2
          go_wp2_with (first
            | (at_builtin; refine wpList_append_rows rfl _ _ 39 rfl wr.heap.size 3 i3 _ 1 8 Try.underlying39 hi3 hz30 hz31 hz32 rfl (by decide) _ 0 [] (by rfl) hlit n0 (.slice A3 k c3) k (ints shown) (by rfl) (hrowr.alloc _) (ints_one shown) (by unfold maxLen; omega) (by omega) (by simp) ?_; intro v1 w2 hown1 hgr1 hat1; have F1 : Fr (fun j => wr.heap.size ≤ j) wr w2 := ((Fr.refl _ wr).alloc _).trans (Fr.of_grown hgr1) (fun i _ e => by (have e2 : wr.heap.size = i := by injection e); omega); have hsz2 := F1.size)
            | (at_builtin; refine wpList_append_own_at _ rfl _ _ 39 rfl wr.heap.size 3 i3 (.int .i64 0) 1 8 Try.underlying39 hi3 hz30 hz31 hz32 rfl (by decide) v1 _ _ (by rfl) (hown1.alloc _) ⟨w2.heap.size, 0, none⟩ 1 1 [.int .i64 t] (by rfl) rfl (cell_one_new w2 _ _) (by intro u hu; simp at hu; subst hu; rfl) (by unfold maxLen; omega) (by omega) (by simp; omega) ?_; intro v2 w3 hown2 hgr2 _ hat2; rw [Nat.zero_add] at hown2; have F2 : Fr (fun j => wr.heap.size ≤ j) wr w3 := (F1.alloc _).trans (Fr.of_grown hgr2) (fun i _ e => (World.ownsRow.lt hown1 i e).1); have hB3 := HBR.out.fr F2 (by omega); have hZ3 := HZR.out.fr F2 (by omega); obtain ⟨A4, c4, hv4⟩ := row_shape hown2; subst hv4; obtain ⟨k0, k1, k2, k3, k4, k5, k6, k7⟩ := hB3.cells8; obtain ⟨g0, g1, g2, g3, g4, g5, g6, g7⟩ := hB3.free8; obtain ⟨z0, z1, z2, z3, z4, z5, z6, z7⟩ := hZ3.cells8; obtain ⟨f0, f1, f2, f3, f4, f5, f6, f7⟩ := hZ3.free8))
          have B4 := hB3.set_ 4 (.slice A4 (k + 1) c4)
          have Z4 := hZ3.far (p := ⟨w.heap.size, 4, none⟩) (by show _ ≠ w.heap.size; omega) (.slice A4 (k + 1) c4)
          have B8 := Z4.set8 rfl (.int .i64 lat) (.int .i64 room) (.slice A1 wait.length c1) (.slice A2 seen.length c2) (.slice A4 (k + 1) c4) (.int .i64 num) (.int .i64 late) (.bool false)
          have F3 : Fr (fun j => w.heap.size ≤ j) w w3 := ((HF0.out.trans' hfr).mono (fun _ _ h => h.elim)).trans F2 (fun i hi e => by omega)
          have F4 := F3.setCell ⟨w.heap.size, 4, none⟩ (fun _ => Nat.le_refl _) (.slice A4 (k + 1) c4)
          have F5 := F4.trans B8.2 (fun i hi e => by omega)
          have FE := F5.shut (Nat.le_refl _)
          have G4 : Fr (fun j => j = w.heap.size ∨ j = w.heap.size + 1) w3 _ := ((Fr.refl _ w3).setCell ⟨w.heap.size, 4, none⟩ (fun _ => .inl rfl) (.slice A4 (k + 1) c4)).trans B8.2 (fun i hi e => .inr e)
          have hownE := row_base (ownsRow_fr hown2 G4 (fun j hj e => by have := (World.ownsRow.lt hown2 j hj).1; omega)) hn2
          have MW := HM.out.frF FE
          refine bodyPost_ret (v := .tuple #[.agg (bCells lat room (.slice A1 wait.length c1) (.slice A2 seen.length c2) (.slice A4 (k + 1) c4) num late false), .int .i64 0]) (results_row_tmp rfl _ _ (w.heap.size + 1) 54 _ (0, 0) _ rfl B8.1 Try.underlying54 rfl (by kernel_rfl) _ rfl) rfl ⟨_, by rw [HC.out, HR.out], ?_, FE⟩
          rw [HR.out]
          refine ⟨MW.wait, MW.seen, ?_⟩
          have e1 : (shown ++ [t]).length = k + 1 := by
            simp
            have := HL2.out
            omega
          have e2 : ints (shown ++ [t]) = [] ++ ints shown ++ [.int .i64 t] := by simp [ints]
          show World.ownsRow _ _ _ _ _ (shown ++ [t]).length (ints (shown ++ [t]))
          rw [e1, e2]
          exact hownE

end Go.Proofs.Ytgcmdoinihehcaa
