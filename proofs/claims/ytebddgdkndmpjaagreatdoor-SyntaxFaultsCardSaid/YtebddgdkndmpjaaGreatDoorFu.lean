/- The document: words: walked. -/
import Derived.Test.YtebddgdkndmpjaaGreatDoorFt
import Derived.Deep.CutBlock
import Derived.Deep.RegionLawGrows
import Derived.Deep.Cut
import Derived.Deep.CutRange
import Derived.WalkKit
import Derived.WalkLawsBesides
import Derived.WalkSpells
import Derived.Deep.QuietTactic
import Derived.BigRegion
import Derived.BigQuiet
import Derived.Lib.Hide
import Derived.Outline
import Derived.Deep.AppendLies
import Derived.Deep.RegionLaw
import Derived.Deep.RegionWith
import Derived.Deep.RegionHeld3
import Derived.Deep.LoopGhost
import Derived.Deep.DeepFit
import Derived.Laws.ResultCell
import Derived.Laws.RangeAny
import Derived.Deep.MidRow
import Derived.StillTailTactics
import Derived.OpenShut
namespace Go.Proofs.YtebddgdkndmpjaaGreatDoor
set_option linter.unusedVariables false
open Go.RowKit Go

theorem word_one {rs ms : List Int} {i : Nat} (h : i < rs.length) : inW ms (peekOf rs i) = true → wordE rs ms i = wordE rs ms (i + 1) := fun h2 => wordE_step h (by unfold peekOf at h2; rw [if_pos h] at h2; exact h2)
theorem rClass_sign {x : Int} (h : signR x = true) : rClass x = classOf x := rClass_of h
theorem wordM {x : Int} (hx : signR x = true) (under : Bool) : inW (if under = true then [95, 45] else [45]) x = (decide (rClass x = 1) || (decide (rClass x = 2) || (decide (x = 45) || (under && decide (x = 95))))) := by
  have h0 := (signR_iff x).1 hx
  have hc : clsOf x = rClass x := by
    unfold clsOf
    rw [if_neg (by omega), rClass_sign hx]
  unfold inW
  rw [hc]
  apply Bool.eq_iff_iff.2
  cases under
  · simp only [Bool.false_eq_true, if_false, Bool.or_eq_true, List.contains_eq_mem, decide_eq_true_eq, List.mem_cons, List.not_mem_nil, or_false, Bool.false_and]
    omega
  · simp only [if_true, Bool.or_eq_true, List.contains_eq_mem, decide_eq_true_eq, List.mem_cons, List.not_mem_nil, or_false, Bool.true_and]
    omega

theorem part_get {rs : List Int} {p q j : Nat} (hq : q ≤ rs.length) (hj : j < q - p) : (part rs p q).getD j 0 = rs.getD (p + j) 0 := by
  unfold part
  rw [List.getD_eq_getElem?_getD, List.getElem?_take, if_pos hj, List.getElem?_drop, ← List.getD_eq_getElem?_getD]
theorem part_size {rs : List Int} {p q : Nat} (hq : q ≤ rs.length) : (part rs p q).length = q - p := by
  unfold part
  rw [List.length_take, List.length_drop]
  omega
theorem part_sign {rs : List Int} (hv : ∀ r, r ∈ rs → signR r = true) (p q : Nat) : ∀ x, x ∈ part rs p q → signR x = true := fun x hx => hv x (List.mem_of_mem_drop (List.mem_of_mem_take hx))
/-- The text of a part of the signs. -/
theorem sub_text {rs : List Int} {g c p q : Nat} {w : World} (hpq : p ≤ q) (hq : q ≤ rs.length) (hc : rs.length ≤ c) (h : Ls w g c rs) (hv : ∀ r, r ∈ rs → signR r = true) (hl : rs.length ≤ 1000) (cc off : Nat) (hcc : q - p ≤ cc) (ho : p = off ∨ q = p) :
    Calls Tryz.prog 46 #[.slice (some ⟨g, off, none⟩) (q - p) cc] w fun e w' => e = .returned (.string (strL (part rs p q))) ∧ Fr (fun _ => False) w w' := by
  refine rtext_sub (q - p) cc _ (part rs p q) w (part_size hq).symm (by omega) (part_sign hv p q) hcc (fun h0 => ⟨g, off, rfl, (World.ownsRow.lt h g rfl).2, fun j hj => ?_⟩)
  rcases ho with rfl | e
  · rw [part_get hq hj, h.cell (by omega)]
    unfold peekOf
    rw [if_pos (by omega)]
  · omega

set_option maxRecDepth 100000 in
set_option maxHeartbeats 4000000 in
theorem rword_any (g c p : Nat) (under : Bool) (rs : List Int) (w : World) (hl : rs.length ≤ 1000) (hv : ∀ r, r ∈ rs → signR r = true) (hp : p ≤ rs.length) (h : Ls w g c rs) :
    Calls Tryz.prog 44 #[.slice (some ⟨g, 0, none⟩) rs.length c, .int .i64 (p : Int), .bool under] w fun e w' => e = .returned (.tuple #[.string (strL (part rs p (wordE rs (if under = true then [95, 45] else [45]) p))), .int .i64 ((wordE rs (if under = true then [95, 45] else [45]) p : Nat) : Int)]) ∧ Fr (fun _ => False) w w' := by
  have HWM := Lib.hid (fun x hx => wordM (x := x) hx under)
  generalize (if under = true then [95, 45] else [45] : List Int) = ms at *
  obtain ⟨q, hq⟩ : ∃ q, q = wordE rs ms p := ⟨_, rfl⟩
  rw [← hq]
  have HQ := Lib.hid hq
  have HS := Lib.hid h
  have hcap := h.cap
  have HSG := Lib.hid (fun i hi => sign_peek hv (i := i) hi)
  have HV := Lib.hid hv
  clear hq h hv
  go_enter Tryz.func44, Tryz.ntmps44
  go_wp2_with fail
  go_loopg [8] (rs.length) (fun gk a wr => ∃ i : Nat, a = .int .i64 (i : Int) ∧ rs.length ≤ i + gk ∧ p ≤ i ∧ i ≤ rs.length ∧ wordE rs ms i = q ∧ w = wr)
  case atStart => exact ⟨p, rfl, by omega, Nat.le_refl _, hp, HQ.out.symm, rfl⟩
  case round =>
    obtain ⟨i, rfl, hg, hpi, hi, hwe, rfl⟩ := hrel
    have HWE := Lib.hid hwe
    clear hwe
    by_cases hil : i < rs.length
    · have c0 := HS.out.cell hil
      have hsg := HSG.out i hil
      have hwm := HWM.out _ hsg
      have HST := Lib.hid (fun h => word_one (rs := rs) (ms := ms) (i := i) hil h)
      have HSP := Lib.hid (show inW ms (peekOf rs i) = false → wordE rs ms i = i from fun h => wordE_stop (fun h2 => by have h3 := h2.2; unfold peekOf at h; rw [if_pos hil] at h; rw [h] at h3; exact Bool.false_ne_true h3))
      have HC := Lib.hid (fun w1 => rclass_any (peekOf rs i) w1)
      generalize peekOf rs i = r at *
      generalize rClass r = k at *
      have HWMM := Lib.hid hwm
      clear hwm hsg
      by_cases k1 : k = 1
      · have b1 : (k == 1) = true := by simpa using k1
        have HT := Lib.hid ((HST.out (by rw [HWMM.out]; simp [*])).symm.trans HWE.out)
        clear HSP HST HWMM
        go_wp2_with fail
        refine (HC.out _).mono ?_
        rintro e w2 ⟨rfl, rfl⟩
        go_wp2_with fail
        go_roundg (rs.length - (i + 1))
        case measure => omega
        case rel => exact ⟨i + 1, rfl, by omega, by omega, by omega, HT.out, rfl⟩
      · have b1 : (k == 1) = false := by simpa using k1
        by_cases k2 : k = 2
        · have b2 : (k == 2) = true := by simpa using k2
          have HT := Lib.hid ((HST.out (by rw [HWMM.out]; simp [*])).symm.trans HWE.out)
          clear HSP HST HWMM
          go_wp2_with fail
          refine (HC.out _).mono ?_
          rintro e w2 ⟨rfl, rfl⟩
          go_wp2_with fail
          refine (HC.out _).mono ?_
          rintro e w3 ⟨rfl, rfl⟩
          go_wp2_with fail
          go_roundg (rs.length - (i + 1))
          case measure => omega
          case rel => exact ⟨i + 1, rfl, by omega, by omega, by omega, HT.out, rfl⟩
        · have b2 : (k == 2) = false := by simpa using k2
          by_cases k3 : r = 45
          · subst k3
            have HT := Lib.hid ((HST.out (by rw [HWMM.out]; simp [*])).symm.trans HWE.out)
            clear HSP HST HWMM
            go_wp2_with fail
            refine (HC.out _).mono ?_
            rintro e w2 ⟨rfl, rfl⟩
            go_wp2_with fail
            refine (HC.out _).mono ?_
            rintro e w3 ⟨rfl, rfl⟩
            go_wp2_with fail
            go_roundg (rs.length - (i + 1))
            case measure => omega
            case rel => exact ⟨i + 1, rfl, by omega, by omega, by omega, HT.out, rfl⟩
          · have b3 : (r == 45) = false := by simpa using k3
            by_cases k4 : under = true ∧ r = 95
            · obtain ⟨ku, kr⟩ := k4
              subst kr
              subst ku
              clear b3
              have HT := Lib.hid ((HST.out (by rw [HWMM.out]; simp [*])).symm.trans HWE.out)
              clear HSP HST HWMM
              go_wp2_with fail
              refine (HC.out _).mono ?_
              rintro e w2 ⟨rfl, rfl⟩
              go_wp2_with fail
              refine (HC.out _).mono ?_
              rintro e w3 ⟨rfl, rfl⟩
              go_wp2_with fail
              go_roundg (rs.length - (i + 1))
              case measure => omega
              case rel => exact ⟨i + 1, rfl, by omega, by omega, by omega, HT.out, rfl⟩
            · have hno : inW ms r = false := by
                rw [HWMM.out]
                cases under with
                | false => simp [*]
                | true => simp [*]; exact fun e => k4 ⟨rfl, e⟩
              have hqi : i = q := (HSP.out hno).symm.trans HWE.out
              subst hqi
              have HSUB := Lib.hid (sub_text hpi (Nat.le_of_lt hil) hcap HS.out HV.out hl)
              cases under with
              | false =>
                go_wp2_with fail
                refine (HC.out _).mono ?_
                rintro e w2 ⟨rfl, rfl⟩
                go_wp2_with fail
                refine (HC.out _).mono ?_
                rintro e w3 ⟨rfl, rfl⟩
                go_wp2_with fail
                all_goals (refine (HSUB.out _ _ (by omega) (by omega)).mono ?_; rintro e w4 ⟨rfl, hf4⟩; go_wp2_with fail; go_ret2; exact ⟨rfl, hf4⟩)
              | true =>
                have b4 : (r == 95) = false := by simpa using fun e => k4 ⟨rfl, e⟩
                go_wp2_with fail
                refine (HC.out _).mono ?_
                rintro e w2 ⟨rfl, rfl⟩
                go_wp2_with fail
                refine (HC.out _).mono ?_
                rintro e w3 ⟨rfl, rfl⟩
                go_wp2_with fail
                all_goals (refine (HSUB.out _ _ (by omega) (by omega)).mono ?_; rintro e w4 ⟨rfl, hf4⟩; go_wp2_with fail; go_ret2; exact ⟨rfl, hf4⟩)
    · have hqi : i = q := (wordE_stop (rs := rs) (ms := ms) (p := i) (fun h => hil h.1)).symm.trans HWE.out
      subst hqi
      have HSUB := Lib.hid (sub_text hpi hi hcap HS.out HV.out hl)
      go_wp2_with fail
      all_goals (refine (HSUB.out _ _ (by omega) (by omega)).mono ?_; rintro e w4 ⟨rfl, hf4⟩; go_wp2_with fail; go_ret2; exact ⟨rfl, hf4⟩)

end Go.Proofs.YtebddgdkndmpjaaGreatDoor
