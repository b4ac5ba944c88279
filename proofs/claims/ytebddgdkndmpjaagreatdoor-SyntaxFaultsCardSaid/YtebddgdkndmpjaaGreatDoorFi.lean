/- What stands behind a backslash: walked. -/
import Derived.Test.YtebddgdkndmpjaaGreatDoorFh
import Derived.Lib.LaidTab
import Derived.Deep.CutBlock
import Derived.Deep.RegionLawGrows
import Derived.Deep.Cut
import Derived.Deep.CutRange
import Derived.WalkKit
import Derived.WalkLawsBesides
import Derived.WalkSpells
import Derived.Deep.QuietTactic
import Derived.BigRegion
import Derived.BigQuiet
import Derived.Lib.Hide
import Derived.Outline
import Derived.Deep.AppendLies
import Derived.Deep.RegionLaw
import Derived.Deep.RegionWith
import Derived.Deep.RegionHeld3
import Derived.Deep.LoopGhost
import Derived.Deep.DeepFit
import Derived.Laws.ResultCell
import Derived.Laws.RangeAny
import Derived.Deep.MidRow
import Derived.StillTailTactics
import Derived.OpenShut
namespace Go.Proofs.YtebddgdkndmpjaaGreatDoor
set_option linter.unusedVariables false
open Go.RowKit Go

def escZ : List Int := [116, 9, 110, 10, 114, 13, 98, 8, 102, 12, 34, 34, 92, 92, 39, 39]
/-- The table of escapes is laid. -/
def Es (w : World) : Prop := Lib.TabIs Tryz.prog w "beck/scan.escapes" .i32 escZ
theorem esG : Tryz.prog.globalNamed "beck/scan.escapes" = some 1 := by kernel_rfl
theorem Es.heap {w : World} (h : Es w) : ∃ (t : TypeId) (f : Nat × Nat), w.heap[1]? = some (.cells (escZ.map fun z => Value.int .i32 z).toArray t f) := by
  unfold Es Lib.TabIs World.var? at h
  rw [esG] at h
  simp only [Option.bind_some] at h
  split at h
  · rename_i cs t f heq
    exact ⟨t, f, by rw [heq, Option.some.inj h]⟩
  · cases h
theorem Es.of {w : World} {t : TypeId} {f : Nat × Nat} (h : w.heap[1]? = some (.cells (escZ.map fun z => Value.int .i32 z).toArray t f)) : Es w := by
  unfold Es Lib.TabIs World.var?
  rw [esG]
  rw [Option.bind_some, h]
theorem Es.lt {w : World} (h : Es w) : 1 < w.heap.size := by
  obtain ⟨t, f, e⟩ := h.heap
  exact (Array.getElem?_eq_some_iff.1 e).1
theorem Es.fr {S : Nat → Prop} {w w' : World} (h : Es w) (hf : Fr S w w') (hn : ¬ S 1) : Es w' := by
  obtain ⟨t, f, e⟩ := h.heap
  exact Es.of ((hf.block 1 h.lt hn).trans e)
theorem Es.frF {w w' : World} (h : Es w) (hf : Fr (fun _ => False) w w') : Es w' := h.fr hf (fun h => h)
theorem Es.cell {w : World} (h : Es w) (i : Nat) (hi : i < 16) : w.cell? ⟨1, i, none⟩ = some (.int .i32 (escZ.getD i 0)) := by
  have := Lib.TabIs.cell h esG i hi
  rw [this, List.getD_eq_getElem?_getD, List.getElem?_eq_getElem hi]


/-- The sign behind a backslash; the place; whether one is there. -/
def escOf (r : Int) : Option Int := if r = 116 then some 9 else if r = 110 then some 10 else if r = 114 then some 13 else if r = 98 then some 8 else if r = 102 then some 12 else if r = 34 then some 34 else if r = 92 then some 92 else if r = 39 then some 39 else none
def escT (rs : List Int) (p : Nat) : Int × Nat × Bool :=
  match escOf (peekOf rs p) with
  | some v => (v, p + 1, true)
  | none => if peekOf rs p = 117 then numR rs 4 (p + 1) else if peekOf rs p = 85 then numR rs 8 (p + 1) else (0, p, false)

theorem idx312_0 (w : World) : (Instr.index 312 (.agg #[.int .i32 116, .int .i32 9, .int .i32 110, .int .i32 10, .int .i32 114, .int .i32 13, .int .i32 98, .int .i32 8, .int .i32 102, .int .i32 12, .int .i32 34, .int .i32 34, .int .i32 92, .int .i32 92, .int .i32 39, .int .i32 39]) (.int .i64 0)).run Tryz.prog w = .ok (.agg #[.int .i32 116, .int .i32 9]) w := by kernel_rfl
theorem idx312_1 (w : World) : (Instr.index 312 (.agg #[.int .i32 116, .int .i32 9, .int .i32 110, .int .i32 10, .int .i32 114, .int .i32 13, .int .i32 98, .int .i32 8, .int .i32 102, .int .i32 12, .int .i32 34, .int .i32 34, .int .i32 92, .int .i32 92, .int .i32 39, .int .i32 39]) (.int .i64 1)).run Tryz.prog w = .ok (.agg #[.int .i32 110, .int .i32 10]) w := by kernel_rfl
theorem idx312_2 (w : World) : (Instr.index 312 (.agg #[.int .i32 116, .int .i32 9, .int .i32 110, .int .i32 10, .int .i32 114, .int .i32 13, .int .i32 98, .int .i32 8, .int .i32 102, .int .i32 12, .int .i32 34, .int .i32 34, .int .i32 92, .int .i32 92, .int .i32 39, .int .i32 39]) (.int .i64 2)).run Tryz.prog w = .ok (.agg #[.int .i32 114, .int .i32 13]) w := by kernel_rfl
theorem idx312_3 (w : World) : (Instr.index 312 (.agg #[.int .i32 116, .int .i32 9, .int .i32 110, .int .i32 10, .int .i32 114, .int .i32 13, .int .i32 98, .int .i32 8, .int .i32 102, .int .i32 12, .int .i32 34, .int .i32 34, .int .i32 92, .int .i32 92, .int .i32 39, .int .i32 39]) (.int .i64 3)).run Tryz.prog w = .ok (.agg #[.int .i32 98, .int .i32 8]) w := by kernel_rfl
theorem idx312_4 (w : World) : (Instr.index 312 (.agg #[.int .i32 116, .int .i32 9, .int .i32 110, .int .i32 10, .int .i32 114, .int .i32 13, .int .i32 98, .int .i32 8, .int .i32 102, .int .i32 12, .int .i32 34, .int .i32 34, .int .i32 92, .int .i32 92, .int .i32 39, .int .i32 39]) (.int .i64 4)).run Tryz.prog w = .ok (.agg #[.int .i32 102, .int .i32 12]) w := by kernel_rfl
theorem idx312_5 (w : World) : (Instr.index 312 (.agg #[.int .i32 116, .int .i32 9, .int .i32 110, .int .i32 10, .int .i32 114, .int .i32 13, .int .i32 98, .int .i32 8, .int .i32 102, .int .i32 12, .int .i32 34, .int .i32 34, .int .i32 92, .int .i32 92, .int .i32 39, .int .i32 39]) (.int .i64 5)).run Tryz.prog w = .ok (.agg #[.int .i32 34, .int .i32 34]) w := by kernel_rfl
theorem idx312_6 (w : World) : (Instr.index 312 (.agg #[.int .i32 116, .int .i32 9, .int .i32 110, .int .i32 10, .int .i32 114, .int .i32 13, .int .i32 98, .int .i32 8, .int .i32 102, .int .i32 12, .int .i32 34, .int .i32 34, .int .i32 92, .int .i32 92, .int .i32 39, .int .i32 39]) (.int .i64 6)).run Tryz.prog w = .ok (.agg #[.int .i32 92, .int .i32 92]) w := by kernel_rfl
theorem idx312_7 (w : World) : (Instr.index 312 (.agg #[.int .i32 116, .int .i32 9, .int .i32 110, .int .i32 10, .int .i32 114, .int .i32 13, .int .i32 98, .int .i32 8, .int .i32 102, .int .i32 12, .int .i32 34, .int .i32 34, .int .i32 92, .int .i32 92, .int .i32 39, .int .i32 39]) (.int .i64 7)).run Tryz.prog w = .ok (.agg #[.int .i32 39, .int .i32 39]) w := by kernel_rfl
theorem idx312 (j : Nat) (hj : j < 8) (w : World) : (Instr.index 312 (.agg #[.int .i32 116, .int .i32 9, .int .i32 110, .int .i32 10, .int .i32 114, .int .i32 13, .int .i32 98, .int .i32 8, .int .i32 102, .int .i32 12, .int .i32 34, .int .i32 34, .int .i32 92, .int .i32 92, .int .i32 39, .int .i32 39]) (.int .i64 (j : Int))).run Tryz.prog w = .ok (.agg #[.int .i32 (escZ.getD (2 * j) 0), .int .i32 (escZ.getD (2 * j + 1) 0)]) w := by
  rcases (show j = 0 ∨ j = 1 ∨ j = 2 ∨ j = 3 ∨ j = 4 ∨ j = 5 ∨ j = 6 ∨ j = 7 by omega) with h | h | h | h | h | h | h | h <;> subst h
  · exact idx312_0 w
  · exact idx312_1 w
  · exact idx312_2 w
  · exact idx312_3 w
  · exact idx312_4 w
  · exact idx312_5 w
  · exact idx312_6 w
  · exact idx312_7 w
theorem escOf_at : ∀ j : Fin 8, escOf (escZ.getD (2 * (j : Nat)) 0) = some (escZ.getD (2 * (j : Nat) + 1) 0) := by decide
theorem esc_pos : ∀ j : Fin 8, 0 ≤ escZ.getD (2 * (j : Nat)) 0 := by decide

set_option maxRecDepth 100000 in
set_option maxHeartbeats 4000000 in
theorem escaped_any (b c p : Nat) (A : Option Addr) (rs : List Int) (w : World) (h : Sc w b A c rs p) (he : Es w) :
    Calls Tryz.prog 323 #[.pointer (some ⟨b, 0, none⟩)] w (ScPost w b A c rs (escT rs p).2.1 (.tuple #[.int .i32 (escT rs p).1, .bool (escT rs p).2.2])) := by
  obtain ⟨res, hres⟩ : ∃ x, x = escT rs p := ⟨_, rfl⟩
  rw [← hres]
  unfold escT at hres
  have HK := Lib.hid (peek_sc b c p A rs w h)
  have HS := Lib.hid h
  have HPL := Lib.hid (fun h2 => peek_lt (rs := rs) (p := p) h2)
  have HD4 := Lib.hid (fun w1 h1 => number_any 4 b c (p + 1) A rs w1 (by decide) h1)
  have HD8 := Lib.hid (fun w1 h1 => number_any 8 b c (p + 1) A rs w1 (by decide) h1)
  generalize numR rs 4 (p + 1) = n4 at *
  generalize numR rs 8 (p + 1) = n8 at *
  generalize peekOf rs p = r at *
  have HRES := Lib.hid hres
  have hsm := h.small
  have WQ := Lib.hid (fun (hp : p < rs.length) => show ((p + 1 : Nat) : Int) = wrap64 ((p : Int) + 1) by rw [IntWalk.wrap64_in _ (by omega)]; omega)
  have hbl := h.blk.lt
  clear hres
  have HES := Lib.hid he
  clear h he
  go_enter Tryz.func323, Tryz.ntmps323
  go_wp2_with fail
  refine HK.out.mono ?_
  rintro e w1 ⟨rfl, hf1⟩
  have he1 := HES.out.frF hf1
  have d0 : w1.cell? ⟨1, 0, none⟩ = some (.int .i32 116) := he1.cell 0 (by decide)
  have d1 : w1.cell? ⟨1, 1, none⟩ = some (.int .i32 9) := he1.cell 1 (by decide)
  have d2 : w1.cell? ⟨1, 2, none⟩ = some (.int .i32 110) := he1.cell 2 (by decide)
  have d3 : w1.cell? ⟨1, 3, none⟩ = some (.int .i32 10) := he1.cell 3 (by decide)
  have d4 : w1.cell? ⟨1, 4, none⟩ = some (.int .i32 114) := he1.cell 4 (by decide)
  have d5 : w1.cell? ⟨1, 5, none⟩ = some (.int .i32 13) := he1.cell 5 (by decide)
  have d6 : w1.cell? ⟨1, 6, none⟩ = some (.int .i32 98) := he1.cell 6 (by decide)
  have d7 : w1.cell? ⟨1, 7, none⟩ = some (.int .i32 8) := he1.cell 7 (by decide)
  have d8 : w1.cell? ⟨1, 8, none⟩ = some (.int .i32 102) := he1.cell 8 (by decide)
  have d9 : w1.cell? ⟨1, 9, none⟩ = some (.int .i32 12) := he1.cell 9 (by decide)
  have d10 : w1.cell? ⟨1, 10, none⟩ = some (.int .i32 34) := he1.cell 10 (by decide)
  have d11 : w1.cell? ⟨1, 11, none⟩ = some (.int .i32 34) := he1.cell 11 (by decide)
  have d12 : w1.cell? ⟨1, 12, none⟩ = some (.int .i32 92) := he1.cell 12 (by decide)
  have d13 : w1.cell? ⟨1, 13, none⟩ = some (.int .i32 92) := he1.cell 13 (by decide)
  have d14 : w1.cell? ⟨1, 14, none⟩ = some (.int .i32 39) := he1.cell 14 (by decide)
  have d15 : w1.cell? ⟨1, 15, none⟩ = some (.int .i32 39) := he1.cell 15 (by decide)
  clear he1
  go_wp2_with fail
  clear d0 d1 d2 d3 d4 d5 d6 d7 d8 d9 d10 d11 d12 d13 d14 d15
  have HF1 := Lib.hid hf1
  have hz1 := hf1.size
  have HS1 := Lib.hid (HS.out.frF hf1)
  clear hf1
  go_loopg [10] (8) (fun g a wr => ∃ (j : Nat), 8 ≤ j + g ∧ j ≤ 8 ∧ a = .int .i64 (j : Int) ∧ Fr (fun j => w1.heap.size ≤ j) w1 wr ∧ ∀ k, k < j → ¬ r = escZ.getD (2 * k) 0)
  case atStart => exact ⟨0, by omega, by omega, rfl, Fr.refl _ _, fun k hk => absurd hk (Nat.not_lt_zero _)⟩
  case round =>
    obtain ⟨j, hg, hj, rfl, hfr, hno⟩ := hrel
    have HSW := Lib.hid (HS1.out.frF (hfr.shut (Nat.le_refl _)))
    have HFR := Lib.hid hfr
    have HNO := Lib.hid hno
    have hzw := hfr.size
    clear hfr hno
    have X0 := Lib.hid (fun hj w => idx312 j hj w)
    generalize (Value.agg #[.int .i32 116, .int .i32 9, .int .i32 110, .int .i32 10, .int .i32 114, .int .i32 13, .int .i32 98, .int .i32 8, .int .i32 102, .int .i32 12, .int .i32 34, .int .i32 34, .int .i32 92, .int .i32 92, .int .i32 39, .int .i32 39]) = T at *
    by_cases hj8 : j < 8
    · have X : ∀ w, _ := X0.out hj8
      have hea := escOf_at ⟨j, hj8⟩
      have hep := esc_pos ⟨j, hj8⟩
      dsimp only at hea hep
      have HKJ := Lib.hid (show ∀ k, k < j + 1 → (k < j ∨ escZ.getD (2 * k) 0 = escZ.getD (2 * j) 0) from fun k hk => by
        by_cases h3 : k < j
        · exact .inl h3
        · exact .inr (by rw [show k = j by omega]))
      generalize escZ.getD (2 * j) 0 = kk at *
      generalize escZ.getD (2 * j + 1) 0 = vv at *
      clear X0
      by_cases hk : r = kk
      · have hr2 : res = (vv, p + 1, true) := by rw [HRES.out, hk, hea]
        subst hr2
        have hs4 := HSW.out
        have hlt := HPL.out (by omega)
        have c14 : wr.cell? ⟨b, 1, none⟩ = some (.int .i64 (p : Int)) := hs4.blk.cell 1
        have f14 := hs4.blk.frozen 1
        have hl4 := hs4.blk.lt
        have FA : Fr (fun _ => False) wr (wr.alloc (.cells #[.int .i32 kk, .int .i32 vv] 311)) := (Fr.refl _ _).alloc _
        have hg1 := hs4.go (p + 1) (by omega)
        clear WQ
        have HG := Lib.hid hg1
        clear hs4 hg1
        subst hk
        have hkk : (r == r) = true := by simp
        go_wp2_with fail
        go_ret2
        exact ⟨rfl, HG.out.1.frF ((Fr.refl _ _).alloc _), (((HF1.out.trans (HFR.out.shut (Nat.le_refl _)) (fun _ _ h => h)).mono (fun _ _ h => h.elim) |>.trans' HG.out.2)).alloc _⟩
      · have hk2 : (kk == r) = false := by simpa using fun e => hk e.symm
        have FA : Fr (fun j => w1.heap.size ≤ j) w1 (wr.alloc (.cells #[.int .i32 kk, .int .i32 vv] 311)) := HFR.out.alloc _
        go_wp2_with fail
        go_roundg (8 - (j + 1))
        case measure => omega
        case rel => exact ⟨j + 1, by omega, by omega, rfl, FA, fun k hk3 => (HKJ.out k hk3).elim (HNO.out k) (fun e => by rw [e]; exact hk)⟩
    · obtain rfl : j = 8 := by omega
      have n0 : ¬ r = 116 := HNO.out 0 (by omega)
      have n1 : ¬ r = 110 := HNO.out 1 (by omega)
      have n2 : ¬ r = 114 := HNO.out 2 (by omega)
      have n3 : ¬ r = 98 := HNO.out 3 (by omega)
      have m4 : ¬ r = 102 := HNO.out 4 (by omega)
      have n5 : ¬ r = 34 := HNO.out 5 (by omega)
      have n6 : ¬ r = 92 := HNO.out 6 (by omega)
      have n7 : ¬ r = 39 := HNO.out 7 (by omega)
      have hr0 : escOf r = none := by unfold escOf; rw [if_neg n0, if_neg n1, if_neg n2, if_neg n3, if_neg m4, if_neg n5, if_neg n6, if_neg n7]
      have hr1 := HRES.out
      rw [hr0] at hr1
      dsimp only at hr1
      clear X0
      by_cases hu : r = 117
      · subst hu
        rw [if_pos rfl] at hr1
        subst hr1
        have hs4 := HSW.out
        have hlt := HPL.out (by decide)
        have c14 : wr.cell? ⟨b, 1, none⟩ = some (.int .i64 (p : Int)) := hs4.blk.cell 1
        have f14 := hs4.blk.frozen 1
        have hl4 := hs4.blk.lt
        have hg1 := hs4.go (p + 1) (by omega)
        clear WQ
        have HG := Lib.hid hg1
        clear hs4 hg1
        go_wp2_with fail
        refine (HD4.out _ HG.out.1).mono ?_
        rintro e w5 ⟨rfl, hs5, hf5⟩
        go_wp2_with fail
        go_ret2
        exact ⟨rfl, hs5, ((HF1.out.trans (HFR.out.shut (Nat.le_refl _)) (fun _ _ h => h)).mono (fun _ _ h => h.elim) |>.trans' HG.out.2).trans' hf5⟩
      · skip
        by_cases hU : r = 85
        · subst hU
          rw [if_neg (by decide), if_pos rfl] at hr1
          subst hr1
          have hs4 := HSW.out
          have hlt := HPL.out (by decide)
          have c14 : wr.cell? ⟨b, 1, none⟩ = some (.int .i64 (p : Int)) := hs4.blk.cell 1
          have f14 := hs4.blk.frozen 1
          have hl4 := hs4.blk.lt
          have hg1 := hs4.go (p + 1) (by omega)
          clear WQ
          have HG := Lib.hid hg1
          clear hs4 hg1
          go_wp2_with fail
          refine (HD8.out _ HG.out.1).mono ?_
          rintro e w5 ⟨rfl, hs5, hf5⟩
          go_wp2_with fail
          go_ret2
          exact ⟨rfl, hs5, ((HF1.out.trans (HFR.out.shut (Nat.le_refl _)) (fun _ _ h => h)).mono (fun _ _ h => h.elim) |>.trans' HG.out.2).trans' hf5⟩
        · skip
          rw [if_neg hu, if_neg hU] at hr1
          subst hr1
          have hu2 : (r == 117) = false := by simpa using hu
          have hU2 : (r == 85) = false := by simpa using hU
          go_wp2_with fail
          go_ret2
          exact ⟨rfl, HSW.out, ((HF1.out.trans (HFR.out.shut (Nat.le_refl _)) (fun _ _ h => h)).mono (fun _ _ h => h.elim))⟩

end Go.Proofs.YtebddgdkndmpjaaGreatDoor
