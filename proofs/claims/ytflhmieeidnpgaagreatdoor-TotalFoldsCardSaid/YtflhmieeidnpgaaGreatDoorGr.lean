/- The document's signs of a text: walked. -/
import Derived.Test.YtflhmieeidnpgaaGreatDoorGq
import Derived.Deep.CutBlock
import Derived.Deep.RegionLawGrows
import Derived.Deep.Cut
import Derived.Deep.CutRange
import Derived.WalkKit
import Derived.WalkLawsBesides
import Derived.WalkSpells
import Derived.Deep.QuietTactic
import Derived.BigRegion
import Derived.BigQuiet
import Derived.Lib.Hide
import Derived.Outline
import Derived.Deep.AppendLies
import Derived.Deep.RegionLaw
import Derived.Deep.RegionWith
import Derived.Deep.RegionHeld3
import Derived.Deep.LoopGhost
import Derived.Deep.DeepFit
import Derived.Laws.ResultCell
import Derived.Laws.RangeAny
import Derived.Deep.MidRow
import Derived.StillTailTactics
import Derived.OpenShut
namespace Go.Proofs.YtflhmieeidnpgaaGreatDoor
set_option linter.unusedVariables false
open Go.RowKit Go


theorem info3 : (Tryz.prog.info? 3).map (fun i => (i.zero, i.size, i.bytes)) = some (some (.int .i64 0), 1, 8) := by kernel_rfl

def rSignsFrom (s : ByteArray) (i : Nat) (l : List Int) : List Int × Bool :=
  if h : i < s.size then (if h0 : (rFirst (s.extract i s.size)).2 = 0 then (l, false) else rSignsFrom s (i + (rFirst (s.extract i s.size)).2) (l ++ [(rFirst (s.extract i s.size)).1])) else (l, true)
termination_by s.size - i
decreasing_by exact Nat.sub_lt_sub_left h (Nat.lt_add_of_pos_right (Nat.pos_of_ne_zero h0))
theorem rSignsFrom_step (s : ByteArray) (i : Nat) (l : List Int) (h : i < s.size) : rSignsFrom s i l = if (rFirst (s.extract i s.size)).2 = 0 then (l, false) else rSignsFrom s (i + (rFirst (s.extract i s.size)).2) (l ++ [(rFirst (s.extract i s.size)).1]) := by
  rw [rSignsFrom, dif_pos h]
  by_cases h0 : (rFirst (s.extract i s.size)).2 = 0
  · rw [dif_pos h0, if_pos h0]
  · rw [dif_neg h0, if_neg h0]
theorem rSignsFrom_end (s : ByteArray) (i : Nat) (l : List Int) (h : ¬ i < s.size) : rSignsFrom s i l = (l, true) := by rw [rSignsFrom, dif_neg h]
def rSigns (s : ByteArray) : List Int × Bool := rSignsFrom s 0 []

def SignsPost (s : ByteArray) (w : World) (e : Ending) (w' : World) : Prop :=
  ∃ (A : Option Addr) (c : Nat), e = .returned (.tuple #[.slice A (rSigns s).1.length c, .bool (rSigns s).2]) ∧ w'.ownsRow w.heap.size 3 1 (.slice A (rSigns s).1.length c) (rSigns s).1.length ((rSigns s).1.map (.int .i64)) ∧ (rSigns s).1.length ≤ s.size ∧ Fr (fun _ => False) w w'

set_option maxRecDepth 100000 in
set_option maxHeartbeats 4000000 in
theorem signs_any (s : ByteArray) (w : World) (hs : s.size ≤ 4096) : Calls Tryz.prog 55 #[.string s] w (SignsPost s w) := by
  obtain ⟨i3, hi3, hz30, hz31, hz32⟩ := info_parts info3
  obtain ⟨rs, hrs⟩ : ∃ rs, rs = rSigns s := ⟨_, rfl⟩
  have HRS := Lib.hid hrs
  unfold SignsPost
  rw [← hrs]
  unfold rSigns at hrs
  have HR0 := Lib.hid hrs
  clear hrs
  have hs' : (s.size : Int) ≤ 4096 := by omega
  go_enter Tryz.func55, Tryz.ntmps55
  go_wp2_with fail
  go_loopw [4, 5] (fun ov iv wr => ∃ (A : Option Addr) (c : Nat) (l : List Int) (i : Nat), ov = .slice A l.length c ∧ iv = .int .i64 (i : Int) ∧ i ≤ s.size ∧ l.length ≤ i ∧ wr.ownsRow w.heap.size 3 1 (.slice A l.length c) l.length (l.map (.int .i64)) ∧ Fr (fun j => w.heap.size ≤ j) w wr ∧ rSignsFrom s i l = rs) (fun _ iv _ => s.size - (intOf iv).toNat)
  case atStart => exact ⟨none, 0, [], 0, rfl, rfl, Nat.zero_le _, Nat.le_refl _, World.ownsRow_nil _ _ _ _, Fr.refl _ _, HR0.out.symm⟩
  case round =>
    obtain ⟨A, c, l, i, rfl, rfl, hi, hli, hrow, hf, hsg⟩ := hrel
    have HF := Lib.hid hf
    have HROW := Lib.hid hrow
    have hszf := hf.size
    clear hf hrow
    by_cases hlt : i < s.size
    · have hlt' : (i : Int) < (s.size : Int) := by omega
      rw [rSignsFrom_step s i l hlt] at hsg
      have hxs : (s.extract i s.size).size = s.size - i := by rw [ByteArray.size_extract]; omega
      have HFI := Lib.hid (fun w => first_any (s.extract i s.size) w (by omega) (by omega))
      have hmm := rFirst_many (s.extract i s.size) (by omega)
      rw [hxs] at hmm
      obtain ⟨n, m, hnm⟩ : ∃ n m, rFirst (s.extract i s.size) = (n, m) := ⟨_, _, rfl⟩
      rw [hnm] at HFI hsg hmm
      clear hnm hxs
      dsimp only at hsg hmm
      have HFI := Lib.hid (show ∀ w, Calls Tryz.prog 86 #[.string (s.extract i s.size)] w fun e w' => e = .returned (.tuple #[.int .i64 n, .int .i64 (m : Int)]) ∧ Fr (fun _ => False) w w' from HFI.out)
      by_cases hm0 : m = 0
      · subst hm0
        have HX := Lib.hid (show rs = (l, false) by rw [← hsg]; rfl)
        clear hsg
        go_wp2_with fail
        refine (HFI.out _).mono ?_
        rintro e w1 ⟨rfl, hf1⟩
        have HF1 := Lib.hid hf1
        clear hf1
        go_wp2_with fail
        go_ret2
        have hr1 := ownsRow_fr HROW.out HF1.out (fun _ _ h => h)
        exact ⟨A, c, by rw [HX.out]; rfl, by rw [HX.out]; exact hr1, by rw [HX.out]; show l.length ≤ _; omega, (HF.out.trans HF1.out (fun _ _ h => h.elim)).shut (Nat.le_refl _)⟩
      · have hm0' : ((m : Int) == 0) = false := by simp [hm0]
        rw [if_neg hm0] at hsg
        have HX := Lib.hid hsg
        have hm1 : 1 ≤ m := by omega
        clear hsg hm0
        go_wp2_with fail
        refine (HFI.out _).mono ?_
        rintro e w1 ⟨rfl, hf1⟩
        have hr1 := ownsRow_fr HROW.out hf1 (fun _ _ h => h)
        have hsz1 := hf1.size
        have HF1 := Lib.hid (HF.out.trans hf1 (fun _ _ h => h.elim))
        clear hf1
        go_wp2_with (at_builtin; refine wpList_append_own _ rfl _ _ 48 rfl w.heap.size 3 i3 _ 1 8 Tryz.underlying48 hi3 hz30 hz31 hz32 rfl (by decide) _ l.length (l.map (.int .i64)) (by rfl) (hr1.alloc _) ⟨w1.heap.size, 0, none⟩ 1 1 [.int .i64 n] (by rfl) rfl (World.news_of_block (heap_alloc_new w1 _)) (by intro u hu; rw [List.mem_singleton] at hu; rw [hu]; rfl) (by unfold maxLen; omega) (by omega) (by simp; omega) ?_; intro v2 w2 hown2 hgr2; obtain ⟨A2, c2, hv2⟩ := row_shape hown2; subst hv2)
        have HF2 := Lib.hid ((HF1.out.alloc (.cells #[.int .i64 n] 3)).grown hgr2 (fun k hk e => (World.ownsRow.lt hr1 k e).1))
        have HR2 := Lib.hid hown2
        clear hown2 hgr2 hr1
        go_wp2_with fail
        go_roundw
        case rel => exact ⟨A2, c2, l ++ [n], i + m, by simp, by go_num, by omega, by simp; omega, by simpa using HR2.out, HF2.out, HX.out⟩
        case measure => simp [intOf]; omega
    · have hge : (s.size : Int) ≤ (i : Int) := by omega
      have hnl : ¬ (i : Int) < (s.size : Int) := by omega
      rw [rSignsFrom_end s i l hlt] at hsg
      have HX := Lib.hid hsg.symm
      clear hsg hlt
      go_wp2_with fail
      go_ret2
      exact ⟨A, c, by rw [HX.out]; rfl, by rw [HX.out]; exact HROW.out, by rw [HX.out]; show l.length ≤ _; omega, HF.out.shut (Nat.le_refl _)⟩

end Go.Proofs.YtflhmieeidnpgaaGreatDoor
