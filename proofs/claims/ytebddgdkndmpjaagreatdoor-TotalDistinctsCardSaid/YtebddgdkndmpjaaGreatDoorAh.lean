/- A row of a table, of what is told of each var: walked. -/
import Derived.Test.YtebddgdkndmpjaaGreatDoorGv
import Derived.Deep.CutBlock
import Derived.Deep.RegionLawGrows
import Derived.Deep.Cut
import Derived.Deep.CutRange
import Derived.WalkKit
import Derived.WalkLawsBesides
import Derived.WalkSpells
import Derived.Deep.QuietTactic
import Derived.BigRegion
import Derived.BigQuiet
import Derived.Lib.Hide
import Derived.Outline
import Derived.Deep.AppendLies
import Derived.Deep.RegionLaw
import Derived.Deep.RegionWith
import Derived.Deep.RegionHeld3
import Derived.Deep.LoopGhost
import Derived.Deep.DeepFit
import Derived.Laws.ResultCell
import Derived.Laws.RangeAny
import Derived.Deep.MidRow
import Derived.StillTailTactics
import Derived.OpenShut
namespace Go.Proofs.YtebddgdkndmpjaaGreatDoor
set_option linter.unusedVariables false
open Go.RowKit Go

set_option maxRecDepth 100000 in
set_option maxHeartbeats 4000000 in
theorem row_gen (F : Nat) (C : Array Value) (tb m vc B : Nat) (V : Option Addr) (vr : Value) (vals : List Value) (rows : List (List Int)) (ss : List ByteArray) (xs : List Int) (w : World) (hl : ss.length = m) (hx : xs.length = m) (hxm : ∀ k, k < m → -1 ≤ xs.getD k 0)
    (hm9 : m ≤ 4096) (hB : B ≤ w.heap.size) (hrows : rows.length ≤ 4096)
    (hen : ∀ args w, (callFunc F args).run Tryz.prog w = .ok (.enter F args) w) (hof : ∀ w1 k, k < m → Fr (fun j => w.heap.size ≤ j) w w1 → Calls Tryz.prog F (#[.string (ss.getD k ByteArray.empty)] ++ C) w1 fun e w' => e = .returned (.int .i64 (xs.getD k 0)) ∧ Fr (fun _ => False) w1 w')
    (ht : Blk w tb 63 #[.slice V m vc, vr]) (hv : w.ownsRow B 9 1 (.slice V m vc) m (ss.map .string)) (hr : RowsAt w B vr vals rows) :
    Calls Tryz.prog 74 #[.pointer (some ⟨tb, 0, none⟩), .func (.func F) #[] C] w (RowPost w B tb m vc V vr vals rows xs) := by
  obtain ⟨A0, c0, hvt⟩ := row_shape hr.own
  subst hvt
  obtain ⟨i3, hi3, hz30, hz31, hz32⟩ := info_parts info3
  obtain ⟨i48, hi48, hz480, hz481, hz482⟩ := info_parts info48
  have t0 := ht.cell 0
  have t1 := ht.cell 1
  have t2 := ht.frozen 1
  simp only [List.getElem?_toArray, List.getElem?_cons_zero, List.getElem?_cons_succ] at t0 t1
  have HOF := Lib.hid hof
  have HT := Lib.hid ht
  have HV := Lib.hid hv
  have HR := Lib.hid hr
  have HXM := Lib.hid hxm
  clear ht hv hr hof hxm
  go_enter Tryz.func74, Tryz.ntmps74
  go_wp2_with (refine wpList_make_own _ rfl _ _ 48 rfl w.heap.size 3 i3 _ 1 Tryz.underlying48 hi3 hz30 hz31 .i64 .i64 m m (by rfl) (by rfl) rfl (by rw [hz32]; omega) (by unfold maxLen; omega) (Nat.le_refl _) ?_; intro w1 hown1 hgr1; have HF1 := Lib.hid (show Fr (fun _ => False) w w1 from (Fr.of_grown hgr1).mono (fun _ _ h => by cases h)); have t01 := cell_fr HF1.out t0; have t11 := cell_fr HF1.out t1)
  have HOWN1 := Lib.hid hown1
  clear hown1 hgr1
  go_loopw [4, 18] (fun ov iv wr => ∃ k : Nat, ov = .slice (some ⟨w.heap.size, 0, none⟩) k m ∧ iv = .int .i64 (k : Int) ∧ k ≤ m ∧ wr.ownsRow w.heap.size 3 1 (.slice (some ⟨w.heap.size, 0, none⟩) k m) k ((xs.take k).map (.int .i64)) ∧ Fr (fun j => w.heap.size ≤ j) w wr) (fun _ iv _ => m - (intOf iv).toNat)
  case atStart => exact ⟨0, rfl, rfl, by omega, by simpa using HOWN1.out, HF1.out.mono (fun _ _ h => h.elim)⟩
  case round =>
    obtain ⟨k, rfl, rfl, hk, hrow, hf⟩ := hrel
    have HF := Lib.hid hf
    have HROW := Lib.hid hrow
    have hsz := hf.size
    clear t01 t11
    by_cases hlt : k < m
    · have hlt' : (k : Int) < (m : Int) := by omega
      obtain ⟨vg, rfl, _, _, _⟩ := row_form HV.out (by omega)
      have cv : wr.cell? ⟨vg, k, none⟩ = some (.string (ss.getD k ByteArray.empty)) := str_cell (ownsRow_fr HV.out hf (fun j hj h => absurd (HV.out.lt j hj).2 (by omega))) k hlt
      have HC := Lib.hid (HOF.out wr k hlt hf)
      have hxk := HXM.out k hlt
      have HX := Lib.hid (show xs.take (k + 1) = xs.take k ++ [xs.getD k 0] by rw [List.take_add_one, List.getD_eq_getElem?_getD, List.getElem?_eq_getElem (by omega)]; rfl)
      generalize ss.getD k ByteArray.empty = x at *
      generalize xs.getD k 0 = y at *
      clear hf hrow
      go_wp2_with fail
      refine HC.out.mono ?_
      rintro e w2 ⟨rfl, hf2⟩
      have HF2 := Lib.hid (HF.out.trans hf2 (fun _ _ h => h.elim))
      have HROW2 := Lib.hid (ownsRow_fr HROW.out hf2 (fun _ _ h => h))
      have hsz2 := hf2.size
      clear hf2
      go_wp2_with (at_builtin; refine wpList_append_fits _ rfl _ _ 48 rfl w.heap.size 3 i3 1 Tryz.underlying48 hi3 hz31 w.heap.size k m ((xs.take k).map (.int .i64)) (by rfl) (HROW2.out.alloc _) ⟨w2.heap.size, 0, none⟩ 1 1 [.int .i64 (max y (-1))] (by rfl) rfl (World.news_of_block (heap_alloc_new w2 _)) (by intro u hu; rw [List.mem_singleton] at hu; rw [hu]; rfl) (by omega) ?_; intro w3 hown3 hgr3)
      have HF3 := Lib.hid ((HF2.out.alloc (.cells #[.int .i64 (max y (-1))] 3)).grown hgr3 (fun j hj e => by injection e with e; omega))
      have HR3 := Lib.hid hown3
      clear hown3 hgr3
      go_wp2_with fail
      go_roundw
      case rel => exact ⟨k + 1, rfl, by go_num, by omega, by rw [HX.out, List.map_append, List.map_singleton, ← Int.max_eq_left hxk]; exact HR3.out, HF3.out⟩
      case measure => simp [intOf]; omega
    · have hlt' : ¬ (k : Int) < (m : Int) := by omega
      have hk3 : m = k := by omega
      subst hk3
      have hb3 := HT.out.fr hf (fun h => absurd HT.out.lt (by omega))
      have hr3 := HR.out.fr hf (fun j hj h => absurd (HR.out.own.lt j hj).2 (by omega)) (fun i hi j hj h => absurd ((HR.out.each i hi).lt j hj).2 (by omega))
      have hrow3 : IntRow wr w.heap.size (.slice (some ⟨w.heap.size, 0, none⟩) m m) xs := by
        unfold IntRow
        rw [hx]
        rw [List.take_of_length_le (by omega)] at hrow
        exact hrow
      have HR3 := Lib.hid hr3
      have HB3 := Lib.hid hb3
      have HROW3 := Lib.hid hrow3
      have c0f : wr.cell? ⟨tb, 0, none⟩ = some (.slice V m vc) := hb3.cell 0
      have c1f : wr.cell? ⟨tb, 1, none⟩ = some (.slice A0 rows.length c0) := hb3.cell 1
      clear hf hrow hr3 hrow3 hb3
      go_wp2_with (at_builtin; refine wpList_append_own_at _ rfl _ _ 61 rfl B 48 i48 _ 1 24 Tryz.underlying61 hi48 hz480 hz481 hz482 rfl (by decide) _ rows.length vals (by rfl) (HR3.out.own.alloc _) ⟨wr.heap.size, 0, none⟩ 1 1 [.slice (some ⟨w.heap.size, 0, none⟩) m m] (by rfl) rfl (World.news_of_block (heap_alloc_new wr _)) (by intro u hu; rw [List.mem_singleton] at hu; rw [hu]; rfl) (by unfold maxLen; omega) (by omega) (by simp; omega) ?_; intro v6 w6 hown6 hgr6 _ hat6; obtain ⟨A6, c6, hv6⟩ := row_shape hown6; subst hv6; have hb6 := (HB3.out.alloc (.cells #[.slice (some ⟨w.heap.size, 0, none⟩) m m] 48)).fr (Fr.of_grown hgr6) (fun h => own_blk_ne HR3.out.own HB3.out (by decide) h); have f16 : w6.frozen? ⟨tb, 1, none⟩ = false := hb6.frozen 1; have c16 : w6.cell? ⟨tb, 1, none⟩ = some (.slice A0 rows.length c0) := hb6.cell 1; have hbl6 := hb6.lt; have HB6 := Lib.hid hb6; clear hb6)
      have hb7 := HB6.out.set_ 1 (.slice A6 (rows.length + 1) c6)
      have hr6 := HR3.out.push HROW3.out hB _ hown6 hgr6
      have HR7 := Lib.hid (hr6.frB HB6.out (by decide) (by decide) ((Fr.refl (fun j => j = tb) w6).setCell ⟨tb, 1, none⟩ (fun _ => rfl) (.slice A6 (rows.length + 1) c6)))
      have HB7 := Lib.hid (show Blk (w6.setCell ⟨tb, 1, none⟩ (.slice A6 (rows.length + 1) c6)) tb 63 #[.slice V m vc, .slice A6 (rows.length + 1) c6] from hb7)
      have F6 : Fr (fun j => j = tb ∨ (Value.slice A0 rows.length c0).ownBlock = some j) w w6 := by
        have h1 : Fr (fun j => w.heap.size ≤ j ∨ (Value.slice A0 rows.length c0).ownBlock = some j) w w6 := ((HF.out.mono (fun _ _ h => .inl h)).alloc (.cells #[.slice (some ⟨w.heap.size, 0, none⟩) m m] 48)).trans (Fr.of_grown hgr6) (fun i hi e => .inr e)
        exact h1.mono (fun j hj h => h.elim (fun h => absurd hj (by omega)) .inr)
      have HF7 := Lib.hid (F6.setCell ⟨tb, 1, none⟩ (fun _ => .inl rfl) (.slice A6 (rows.length + 1) c6))
      have HAT := Lib.hid hat6
      have HG := Lib.hid (getD_push (nv := .slice (some ⟨w.heap.size, 0, none⟩) m m) HR3.out.len)
      clear hown6 hgr6 hat6 hr6 hb7 F6
      go_wp2_with fail
      go_end0
      refine ⟨rfl, _, _, HB7.out, HR7.out, HF7.out, fun k hk => ?_, HG.out.1, fun k hk => ?_⟩
      · rcases HAT.out with h | h
        · left; rw [← h]; exact hk
        · right
          rw [h] at hk
          injection hk with hk
          simp at hk
          omega
      · rw [HG.out.2] at hk
        injection hk with hk
        exact Nat.le_of_eq hk




end Go.Proofs.YtebddgdkndmpjaaGreatDoor
