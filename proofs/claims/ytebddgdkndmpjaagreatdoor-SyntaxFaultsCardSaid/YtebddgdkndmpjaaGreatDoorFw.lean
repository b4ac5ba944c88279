/- The document: quoted texts: walked. -/
import Derived.Test.YtebddgdkndmpjaaGreatDoorFv
import Derived.Deep.CutBlock
import Derived.Deep.RegionLawGrows
import Derived.Deep.Cut
import Derived.Deep.CutRange
import Derived.WalkKit
import Derived.WalkLawsBesides
import Derived.WalkSpells
import Derived.Deep.QuietTactic
import Derived.BigRegion
import Derived.BigQuiet
import Derived.Lib.Hide
import Derived.Outline
import Derived.Deep.AppendLies
import Derived.Deep.RegionLaw
import Derived.Deep.RegionWith
import Derived.Deep.RegionHeld3
import Derived.Deep.LoopGhost
import Derived.Deep.DeepFit
import Derived.Laws.ResultCell
import Derived.Laws.RangeAny
import Derived.Deep.MidRow
import Derived.StillTailTactics
import Derived.OpenShut
namespace Go.Proofs.YtebddgdkndmpjaaGreatDoor
set_option linter.unusedVariables false
open Go.RowKit Go

def stdS : ByteArray := ⟨#[9, 10, 13, 8, 12, 34, 92]⟩
def letS : ByteArray := ⟨#[116, 110, 114, 98, 102, 34, 92]⟩
/-- The letter that stands for a sign; 0: none. -/
def letR (m : Int) : Int := if m = 9 then 116 else if m = 10 then 110 else if m = 13 then 114 else if m = 8 then 98 else if m = 12 then 102 else if m = 34 then 34 else if m = 92 then 92 else 0
theorem letR_le (m : Int) : 0 ≤ letR m ∧ letR m ≤ 255 := by
  unfold letR
  (repeat' split) <;> omega
theorem std_at : ∀ j : Fin 7, letR (byteAt stdS j) = byteAt letS j ∧ 0 < byteAt letS j := by decide
theorem std_none (n : Int) (h : ∀ j, j < 7 → ¬ n = byteAt stdS j) : letR n = 0 := by
  have a0 := h 0 (by decide); have a1 := h 1 (by decide); have a2 := h 2 (by decide); have a3 := h 3 (by decide); have a4 := h 4 (by decide); have a5 := h 5 (by decide); have a6 := h 6 (by decide)
  rw [show byteAt stdS 0 = 9 from by decide] at a0
  rw [show byteAt stdS 1 = 10 from by decide] at a1
  rw [show byteAt stdS 2 = 13 from by decide] at a2
  rw [show byteAt stdS 3 = 8 from by decide] at a3
  rw [show byteAt stdS 4 = 12 from by decide] at a4
  rw [show byteAt stdS 5 = 34 from by decide] at a5
  rw [show byteAt stdS 6 = 92 from by decide] at a6
  unfold letR
  rw [if_neg a0, if_neg a1, if_neg a2, if_neg a3, if_neg a4, if_neg a5, if_neg a6]

set_option maxRecDepth 100000 in
set_option maxHeartbeats 4000000 in
theorem rlet_any (n : Int) (w : World) : Calls Tryz.prog 105 #[.int .i64 n] w fun e w' => e = .returned (.int .u8 (letR n)) ∧ w = w' := by
  obtain ⟨res, hres⟩ : ∃ x, x = letR n := ⟨_, rfl⟩
  rw [← hres]
  have HR := Lib.hid hres
  clear hres
  go_enter Tryz.func105, Tryz.ntmps105
  go_wp2_with fail
  go_loopg [5] (7) (fun g a wr => ∃ j : Nat, 7 ≤ j + g ∧ j ≤ 7 ∧ a = .int .i64 (j : Int) ∧ w = wr ∧ ∀ k, k < j → ¬ n = byteAt stdS k)
  case atStart => exact ⟨0, by omega, by omega, rfl, rfl, fun k hk => absurd hk (Nat.not_lt_zero _)⟩
  case round =>
    obtain ⟨j, hg, hj, rfl, rfl, hno⟩ := hrel
    have HNO := Lib.hid hno
    clear hno
    by_cases hj7 : j < 7
    · have h1 : ∀ w, (Instr.index 9 (.string ⟨#[9, 10, 13, 8, 12, 34, 92]⟩) (.int .i64 (j : Int))).run Tryz.prog w = .ok (.int .u8 (byteAt stdS j)) w := fun w => run_index_at (s := stdS) hj7 w
      have h2 : ∀ w, (Instr.index 9 (.string ⟨#[116, 110, 114, 98, 102, 34, 92]⟩) (.int .i64 (j : Int))).run Tryz.prog w = .ok (.int .u8 (byteAt letS j)) w := fun w => run_index_at (s := letS) hj7 w
      have b1 := byteAt_le stdS j
      have HAT := Lib.hid (std_at ⟨j, hj7⟩)
      have HJ := Lib.hid (show ∀ k, k < j + 1 → ¬ n = byteAt stdS j → ¬ n = byteAt stdS k from fun k hk e1 => by
        by_cases h3 : k < j
        · exact HNO.out k h3
        · obtain rfl : k = j := by omega
          exact e1)
      generalize byteAt stdS j = k1 at *
      generalize byteAt letS j = k2 at *
      by_cases e1 : n = k1
      · subst e1
        have hr : res = k2 := by rw [HR.out]; exact HAT.out.1
        subst hr
        go_wp2_with fail
        go_ret
        exact ⟨rfl, rfl⟩
      · have be1 : (n == k1) = false := by simpa using e1
        go_wp2_with fail
        go_roundg (7 - (j + 1))
        case measure => omega
        case rel => exact ⟨j + 1, by omega, by omega, rfl, rfl, fun k hk => HJ.out k hk e1⟩
    · obtain rfl : j = 7 := by omega
      have hr : res = 0 := by rw [HR.out]; exact std_none n (fun k hk => HNO.out k hk)
      subst hr
      go_wp2_with fail
      go_ret
      exact ⟨rfl, rfl⟩

/-- The last sign below m that a letter stands for. -/
def plF (c : Int) : Nat → Int
  | 0 => -1
  | m + 1 => if letR (m : Int) ≠ 0 ∧ letR (m : Int) = c then (m : Int) else plF c m
def plR (c : Int) : Int := if c = 39 then 39 else plF c 160
theorem plF_none (c : Int) (h : c ≠ 116 ∧ c ≠ 110 ∧ c ≠ 114 ∧ c ≠ 98 ∧ c ≠ 102 ∧ c ≠ 34 ∧ c ≠ 92) : ∀ m, plF c m = -1
  | 0 => rfl
  | m + 1 => by
    unfold plF
    rw [if_neg, plF_none c h m]
    rintro ⟨h1, h2⟩
    unfold letR at h1 h2
    repeat' split at h2
    all_goals first | (exact absurd h2.symm (by omega)) | (simp_all)
theorem plR_esc (c : Int) : plR c = (match escOf c with | some v => v | none => -1) := by
  by_cases h : c = 116 ∨ c = 110 ∨ c = 114 ∨ c = 98 ∨ c = 102 ∨ c = 34 ∨ c = 92 ∨ c = 39
  · rcases h with h | h | h | h | h | h | h | h <;> subst h <;> decide
  · unfold plR
    rw [if_neg (by omega), plF_none c (by omega)]
    unfold escOf
    rw [if_neg (by omega), if_neg (by omega), if_neg (by omega), if_neg (by omega), if_neg (by omega), if_neg (by omega), if_neg (by omega), if_neg (by omega)]
theorem plF_le (c : Int) : ∀ m : Nat, -1 ≤ plF c m ∧ plF c m < (m : Int)
  | 0 => by unfold plF; omega
  | m + 1 => by
    have := plF_le c m
    unfold plF
    split <;> omega

/-- The signs that are told; none: no row. -/
def outOf : Option (List Int) → List Int
  | none => []
  | some l => l
def RQPost (w : World) (qr : Option (List Int) × Nat) (e : Ending) (w' : World) : Prop :=
  (∃ A c, e = .returned (.tuple #[.slice A (outOf qr.1).length c, .int .i64 (qr.2 : Int), .bool qr.1.isSome]) ∧ w'.ownsRow w.heap.size 3 1 (.slice A (outOf qr.1).length c) (outOf qr.1).length ((outOf qr.1).map (.int .i64))) ∧ Fr (fun _ => False) w w'
theorem escT_some {rs : List Int} {p : Nat} {v : Int} (h : escOf (peekOf rs p) = some v) : escT rs p = (v, p + 1, true) := by unfold escT; rw [h]
theorem escT_u {rs : List Int} {p : Nat} (h : peekOf rs p = 117) : escT rs p = numR rs 4 (p + 1) := by
  unfold escT
  rw [h, show escOf 117 = none from rfl]
  rfl
theorem escT_U {rs : List Int} {p : Nat} (h : peekOf rs p = 85) : escT rs p = numR rs 8 (p + 1) := by
  unfold escT
  rw [h, show escOf 85 = none from rfl]
  rfl
theorem escT_no {rs : List Int} {p : Nat} (h : escOf (peekOf rs p) = none) (h1 : ¬ peekOf rs p = 117) (h2 : ¬ peekOf rs p = 85) : escT rs p = (0, p, false) := by
  unfold escT
  rw [h]
  dsimp only
  rw [if_neg h1, if_neg h2]

set_option maxRecDepth 100000 in
set_option maxHeartbeats 8000000 in
theorem rquoted_any (g c p : Nat) (rs : List Int) (w : World) (hl : rs.length ≤ 1000) (hv : ∀ r, r ∈ rs → signR r = true) (hp : p ≤ rs.length) (h : Ls w g c rs) :
    Calls Tryz.prog 45 #[.slice (some ⟨g, 0, none⟩) rs.length c, .int .i64 (p : Int)] w (RQPost w (quotR rs p)) := by
  obtain ⟨i3, hi3, hz0, hz1, hz2⟩ := info_parts info3b
  obtain ⟨res, hres⟩ : ∃ x, x = quotR rs p := ⟨_, rfl⟩
  rw [← hres]
  unfold quotR at hres
  have HLT := Lib.hid (fun n w1 => rlet_any n w1)
  have HH := Lib.hid (fun n w1 => rhex_any n w1)
  have HSI := Lib.hid (fun n w1 => rsign_any n w1)
  have HS := Lib.hid h
  have hcap := h.cap
  have HSG := Lib.hid (fun i hi => sign_peek hv (i := i) hi)
  have HV0 := Lib.hid (show ∀ r, r ∈ rs → 0 ≤ r from fun r hr => ((signR_iff r).1 (hv r hr)).1)
  clear h
  by_cases hp0 : peekOf rs p = 34
  · rw [if_pos hp0] at hres
    have HRES := Lib.hid hres
    have hplt := peek_lt (rs := rs) (p := p) (by omega)
    have c0 := HS.out.cell hplt
    rw [hp0] at c0
    have hdge : decide (rs.length ≤ p) = false := decide_eq_false (by omega)
    clear hres hp0
    go_enter Tryz.func45, Tryz.ntmps45
    go_wp2_with fail
    clear c0
    go_loopg [7, 8] (rs.length + 1) (fun gk a7 a8 wr => ∃ (i : Nat) (out : List Int), a8 = .int .i64 (i : Int) ∧ rs.length + 1 ≤ i + gk ∧ i ≤ rs.length ∧ out.length ≤ i ∧ quotT rs i out = res ∧ wr.ownsRow w.heap.size 3 1 a7 out.length (out.map (.int .i64)) ∧ Fr (fun _ => False) w wr)
    case atStart => exact ⟨p + 1, [], rfl, by omega, by omega, Nat.zero_le _, HRES.out.symm, World.ownsRow_nil _ _ _ _, Fr.refl _ _⟩
    case round =>
      obtain ⟨i, out, rfl, hg, hi, hol, hir, hrow, hf⟩ := hrel
      have HIR := Lib.hid hir
      have HF := Lib.hid hf
      have HROW := Lib.hid hrow
      have hsz := hf.size
      have HSW := Lib.hid (HS.out.frF hf)
      obtain ⟨A6, c6, hv6⟩ := row_shape hrow
      subst hv6
      clear hir hrow hf
      by_cases hil : i < rs.length
      · have c0 := HSW.out.cell hil
        by_cases h34 : peekOf rs i = 34
        · have hrr := (quotT_shut (rs := rs) (i := i) out h34).symm.trans HIR.out
          subst hrr
          rw [h34] at c0
          go_wp2_with fail
          go_ret3
          exact ⟨⟨A6, c6, rfl, HROW.out⟩, HF.out⟩
        · by_cases h10 : peekOf rs i = 10
          · have hrr := (quotT_end (rs := rs) (i := i) HV0.out out (by omega)).symm.trans HIR.out
            subst hrr
            rw [h10] at c0
            go_wp2_with fail
            go_ret3
            exact ⟨⟨none, 0, rfl, World.ownsRow_nil _ _ _ _⟩, HF.out⟩
          · by_cases h13 : peekOf rs i = 13
            · have hrr := (quotT_end (rs := rs) (i := i) HV0.out out (by omega)).symm.trans HIR.out
              subst hrr
              rw [h13] at c0
              go_wp2_with fail
              go_ret3
              exact ⟨⟨none, 0, rfl, World.ownsRow_nil _ _ _ _⟩, HF.out⟩
            · have hsg := HSG.out i hil
              by_cases h92 : peekOf rs i = 92
              · rw [h92] at c0
                by_cases hil2 : i + 1 < rs.length
                · have c1 := HSW.out.cell hil2
                  have hpl := plR_esc (peekOf rs (i + 1))
                  have HESS := Lib.hid (fun v h => escT_some (rs := rs) (p := i + 1) (v := v) h)
                  have HESU := Lib.hid (fun h => escT_u (rs := rs) (p := i + 1) h)
                  have HESV := Lib.hid (fun h => escT_U (rs := rs) (p := i + 1) h)
                  have HESN := Lib.hid (fun h h1 h2 => escT_no (rs := rs) (p := i + 1) h h1 h2)
                  have hqo := quotT_ok (rs := rs) (i := i) out h92
                  have hqn := quotT_no (rs := rs) (i := i) out h92
                  rw [HIR.out] at hqo hqn
                  have HQO := Lib.hid hqo
                  have HQN := Lib.hid hqn
                  have HPL := Lib.hid hpl
                  clear hpl hqo hqn
                  generalize peekOf rs (i + 1) = ch at *
                  go_wp2_with fail
                  go_loopg [11, 12] (160) (fun gk b11 b12 wi => ∃ (m : Nat), 160 ≤ m + gk ∧ m ≤ 160 ∧ b11 = .int .i64 (plF ch m) ∧ b12 = .int .i64 (m : Int) ∧ wr = wi)
                  case atStart => exact ⟨0, by omega, by omega, rfl, rfl, rfl⟩
                  case round =>
                    obtain ⟨m, hgm, hm, rfl, rfl, rfl⟩ := hrel
                    have hple := plF_le ch m
                    by_cases hm160 : m < 160
                    · have HL := Lib.hid (HLT.out (m : Int) wr)
                      have hlb := letR_le (m : Int)
                      have HPF := Lib.hid (show plF ch (m + 1) = if letR (m : Int) ≠ 0 ∧ letR (m : Int) = ch then (m : Int) else plF ch m from rfl)
                      generalize letR (m : Int) = lt at *
                      generalize hpm : plF ch m = pm at *
                      by_cases hlt : lt ≠ 0 ∧ lt = ch
                      · have hpf := HPF.out
                        rw [if_pos hlt] at hpf
                        obtain ⟨l1, l2⟩ := hlt
                        subst l2
                        have b1 : (lt != 0) = true := by simpa using l1
                        have b1' : (lt == 0) = false := by simpa using l1
                        have b3 : (lt == lt) = true := by simp
                        go_wp2_with fail
                        refine HL.out.mono ?_
                        rintro e w2 ⟨rfl, rfl⟩
                        go_wp2_with fail
                        go_roundg (160 - (m + 1))
                        case measure => omega
                        case rel => exact ⟨m + 1, by omega, by omega, by rw [hpf], rfl, rfl⟩
                      · have hpf := HPF.out
                        rw [if_neg hlt] at hpf
                        by_cases l1 : lt = 0
                        · subst l1
                          go_wp2_with fail
                          refine HL.out.mono ?_
                          rintro e w2 ⟨rfl, rfl⟩
                          go_wp2_with fail
                          go_roundg (160 - (m + 1))
                          case measure => omega
                          case rel => exact ⟨m + 1, by omega, by omega, by rw [hpf], rfl, rfl⟩
                        · have b1 : (lt != 0) = true := by simpa using l1
                          have b2 : (lt == ch) = false := by simpa using fun e => hlt ⟨l1, e⟩
                          have b1' : (lt == 0) = false := by simpa using l1
                          have hne : ¬ lt = ch := fun e => hlt ⟨l1, e⟩
                          go_wp2_with fail
                          refine HL.out.mono ?_
                          rintro e w2 ⟨rfl, rfl⟩
                          go_wp2_with fail
                          go_roundg (160 - (m + 1))
                          case measure => omega
                          case rel => exact ⟨m + 1, by omega, by omega, by rw [hpf], rfl, rfl⟩
                    · obtain rfl : m = 160 := by omega
                      have hpl2 := HPL.out
                      unfold plR at hpl2
                      by_cases h39 : ch = 39
                      · subst h39
                        have hes := HESS.out 39 rfl
                        have hq := HQO.out (by rw [hes])
                        rw [hes] at hq
                        have HRR := Lib.hid hq.symm
                        clear hq hes hpl2
                        generalize plF 39 160 = pm at *
                        go_wp2_with (at_builtin; refine wpList_append_own _ rfl _ _ 48 rfl w.heap.size 3 i3 _ 1 8 Tryz.underlying48 hi3 hz0 hz1 hz2 rfl (by decide) (.slice A6 out.length c6) out.length (out.map (.int .i64)) (by rfl) (HROW.out.alloc _) ⟨wr.heap.size, 0, none⟩ 1 1 [.int .i64 39] (by rfl) rfl (World.news_of_block (heap_alloc_new wr _)) (by intro u hu; rw [List.mem_singleton] at hu; rw [hu]; rfl) (by unfold maxLen; omega) (by omega) (by simp; omega) ?_; intro v7 w7 hown7 hgr7 _; have F7 := (show Fr (fun j => w.heap.size ≤ j) w w7 from ((HF.out.mono (fun _ _ h => h.elim)).alloc _).trans ((Fr.of_grown hgr7).mono (fun j _ e => (HROW.out.lt j e).1)) (fun _ _ h => h)); have HOWN7 := Lib.hid hown7; have HF7 := Lib.hid (F7.shut (Nat.le_refl _)); clear hown7 hgr7 F7)
                        go_roundg (rs.length + 1 - (i + 1 + 1))
                        case measure => omega
                        case rel => exact ⟨i + 1 + 1, out ++ [39], rfl, by omega, by omega, by rw [List.length_append]; show out.length + 1 ≤ _; omega, HRR.out, by rw [List.length_append, List.map_append]; exact HOWN7.out, HF7.out⟩
                      · rw [if_neg h39] at hpl2
                        have b39 : (ch == 39) = false := by simpa using h39
                        cases hes0 : escOf ch with
                        | some v =>
                          rw [hes0] at hpl2
                          dsimp only at hpl2
                          have hv0 : 0 ≤ v := by
                            have := HESS.out v hes0
                            have h3 := escT_ok (rs := rs) (p := i + 1) (by rw [this])
                            rw [this] at h3
                            exact h3.2.2.1
                          have hes := HESS.out v hes0
                          have hq := HQO.out (by rw [hes])
                          rw [hes] at hq
                          have HRR := Lib.hid hq.symm
                          clear hq hes hes0
                          rw [hpl2] at hple ⊢
                          clear hpl2
                          go_wp2_with (at_builtin; refine wpList_append_own _ rfl _ _ 48 rfl w.heap.size 3 i3 _ 1 8 Tryz.underlying48 hi3 hz0 hz1 hz2 rfl (by decide) (.slice A6 out.length c6) out.length (out.map (.int .i64)) (by rfl) (HROW.out.alloc _) ⟨wr.heap.size, 0, none⟩ 1 1 [.int .i64 v] (by rfl) rfl (World.news_of_block (heap_alloc_new wr _)) (by intro u hu; rw [List.mem_singleton] at hu; rw [hu]; rfl) (by unfold maxLen; omega) (by omega) (by simp; omega) ?_; intro v7 w7 hown7 hgr7 _; have F7 := (show Fr (fun j => w.heap.size ≤ j) w w7 from ((HF.out.mono (fun _ _ h => h.elim)).alloc _).trans ((Fr.of_grown hgr7).mono (fun j _ e => (HROW.out.lt j e).1)) (fun _ _ h => h)); have HOWN7 := Lib.hid hown7; have HF7 := Lib.hid (F7.shut (Nat.le_refl _)); clear hown7 hgr7 F7)
                          go_roundg (rs.length + 1 - (i + 1 + 1))
                          case measure => omega
                          case rel => exact ⟨i + 1 + 1, out ++ [v], rfl, by omega, by omega, by rw [List.length_append]; show out.length + 1 ≤ _; omega, HRR.out, by rw [List.length_append, List.map_append]; exact HOWN7.out, HF7.out⟩
                        | none =>
                          rw [hes0] at hpl2
                          dsimp only at hpl2
                          rw [hpl2] at hple ⊢
                          clear hpl2 hple
                          by_cases hu : ch = 117
                          · subst hu
                            have hes := HESU.out rfl
                            have hqo := HQO.out
                            have hqn := HQN.out
                            rw [hes] at hqo hqn
                            have HQ1 := Lib.hid hqo
                            have HQ2 := Lib.hid hqn
                            clear hes hqo hqn hes0
                            go_wp2_with fail
                            go_loopg [8, 15, 16] (4) (fun gk b8 b10 b11 wi => ∃ (k : Nat) (nn : Int), 4 ≤ k + gk ∧ k ≤ 4 ∧ i + 2 + k ≤ rs.length ∧ 0 ≤ nn ∧ nn < 16 ^ k ∧ hexF rs (4 - k) (i + 2 + k) nn = hexF rs 4 (i + 1 + 1) 0 ∧ b8 = .int .i64 ((i + 2 + k : Nat) : Int) ∧ b10 = .int .i64 nn ∧ b11 = .int .i64 (k : Int) ∧ wr = wi)
                            case atStart => exact ⟨0, 0, by omega, by omega, by omega, by decide, by decide, rfl, rfl, rfl, rfl, rfl⟩
                            case round =>
                              obtain ⟨k, nn, hgk, hk, hpk, hn0, hn1, hx, rfl, rfl, rfl, rfl⟩ := hrel
                              have hp16 := pow16 k (by omega)
                              have HX := Lib.hid hx
                              clear hx
                              by_cases hkm : k < 4
                              · obtain ⟨j, hj⟩ : ∃ j, 4 - k = j + 1 := ⟨4 - k - 1, by omega⟩
                                have hx2 := HX.out
                                rw [hj, hexF_succ] at hx2
                                by_cases hq : i + 2 + k < rs.length
                                · have cq := HSW.out.cell hq
                                  have HHH := Lib.hid (HH.out (peekOf rs (i + 2 + k)) wr)
                                  have hdb := hexR_le (peekOf rs (i + 2 + k))
                                  by_cases hd : hexR (peekOf rs (i + 2 + k)) < 0
                                  · rw [if_pos hd] at hx2
                                    have hnr : numR rs 4 (i + 1 + 1) = (0, i + 2 + k, false) := by unfold numR; rw [← hx2]; rfl
                                    have hrr := HQ2.out
                                    rw [hnr] at hrr
                                    have hrr := hrr rfl
                                    subst hrr
                                    clear hnr hx2
                                    generalize hexR (peekOf rs (i + 2 + k)) = d at *
                                    go_wp2_with fail
                                    refine HHH.out.mono ?_
                                    rintro e w2 ⟨rfl, rfl⟩
                                    go_wp2_with fail
                                    go_ret3
                                    exact ⟨⟨none, 0, rfl, World.ownsRow_nil _ _ _ _⟩, HF.out⟩
                                  · rw [if_neg hd] at hx2
                                    have HXX := Lib.hid hx2
                                    have HP4 : 16 * nn + hexR (peekOf rs (i + 2 + k)) < 16 ^ (k + 1) := by rw [Int.pow_succ]; omega
                                    generalize hexR (peekOf rs (i + 2 + k)) = d at *
                                    clear hx2
                                    have w1 : wrap64 (nn * 16) = nn * 16 := IntWalk.wrap64_in _ (by omega)
                                    have w2 : wrap64 (nn * 16 + d) = nn * 16 + d := IntWalk.wrap64_in _ (by omega)
                                    go_wp2_with fail
                                    refine HHH.out.mono ?_
                                    rintro e w2 ⟨rfl, rfl⟩
                                    go_wp2_with fail
                                    refine HHH.out.mono ?_
                                    rintro e w2 ⟨rfl, rfl⟩
                                    go_wp2_with fail
                                    go_roundg (4 - (k + 1))
                                    case measure => omega
                                    case rel => exact ⟨k + 1, nn * 16 + d, by omega, by omega, by omega, by omega, by rw [Int.mul_comm nn 16]; exact HP4, by rw [show 4 - (k + 1) = j by omega, Int.mul_comm nn 16]; exact HXX.out, rfl, rfl, rfl, rfl⟩
                                · have hd : hexR (peekOf rs (i + 2 + k)) < 0 := by rw [peek_past hq]; decide
                                  rw [if_pos hd] at hx2
                                  have hnr : numR rs 4 (i + 1 + 1) = (0, i + 2 + k, false) := by unfold numR; rw [← hx2]; rfl
                                  have hrr := HQ2.out
                                  rw [hnr] at hrr
                                  have hrr := hrr rfl
                                  subst hrr
                                  clear hnr hx2 hd
                                  go_wp2_with fail
                                  go_ret3
                                  exact ⟨⟨none, 0, rfl, World.ownsRow_nil _ _ _ _⟩, HF.out⟩
                              · obtain rfl : k = 4 := by omega
                                have hx2 := HX.out
                                rw [Nat.sub_self, hexF_zero] at hx2
                                have HSS := Lib.hid (HSI.out nn wr)
                                by_cases hsg2 : signR nn = true
                                · have hnr : numR rs 4 (i + 1 + 1) = (nn, i + 2 + 4, true) := by unfold numR; rw [← hx2, if_pos rfl, if_pos hsg2]
                                  have hrr := HQ1.out
                                  rw [hnr] at hrr
                                  have HRR := Lib.hid (hrr rfl).symm
                                  rw [show rSign nn = true from hsg2] at HSS
                                  clear hrr hnr hx2
                                  go_wp2_with fail
                                  refine HSS.out.mono ?_
                                  rintro e w2 ⟨rfl, rfl⟩
                                  go_wp2_with (at_builtin; refine wpList_append_own _ rfl _ _ 48 rfl w.heap.size 3 i3 _ 1 8 Tryz.underlying48 hi3 hz0 hz1 hz2 rfl (by decide) (.slice A6 out.length c6) out.length (out.map (.int .i64)) (by rfl) (HROW.out.alloc _) ⟨wr.heap.size, 0, none⟩ 1 1 [.int .i64 nn] (by rfl) rfl (World.news_of_block (heap_alloc_new wr _)) (by intro u hu; rw [List.mem_singleton] at hu; rw [hu]; rfl) (by unfold maxLen; omega) (by omega) (by simp; omega) ?_; intro v7 w7 hown7 hgr7 _; have F7 := (show Fr (fun j => w.heap.size ≤ j) w w7 from ((HF.out.mono (fun _ _ h => h.elim)).alloc _).trans ((Fr.of_grown hgr7).mono (fun j _ e => (HROW.out.lt j e).1)) (fun _ _ h => h)); have HOWN7 := Lib.hid hown7; have HF7 := Lib.hid (F7.shut (Nat.le_refl _)); clear hown7 hgr7 F7)
                                  go_roundg (rs.length + 1 - (i + 2 + 4))
                                  case measure => omega
                                  case rel => exact ⟨i + 2 + 4, out ++ [nn], rfl, by omega, by omega, by rw [List.length_append]; show out.length + 1 ≤ _; omega, HRR.out, by rw [List.length_append, List.map_append]; exact HOWN7.out, HF7.out⟩
                                · have hsf : signR nn = false := by simpa using hsg2
                                  have hnr : numR rs 4 (i + 1 + 1) = (0, i + 2 + 4 - 1, false) := by unfold numR; rw [← hx2, if_pos rfl, if_neg hsg2]
                                  have hrr := HQ2.out
                                  rw [hnr] at hrr
                                  have hrr := hrr rfl
                                  subst hrr
                                  rw [show rSign nn = false from hsf] at HSS
                                  clear hnr hx2
                                  go_wp2_with fail
                                  refine HSS.out.mono ?_
                                  rintro e w2 ⟨rfl, rfl⟩
                                  go_wp2_with fail
                                  go_ret3
                                  refine ⟨⟨none, 0, ?_, World.ownsRow_nil _ _ _ _⟩, HF.out⟩
                                  show _ = Ending.returned (.tuple #[.slice none 0 0, .int .i64 ((i + 2 + 4 - 1 : Nat) : Int), .bool false])
                                  rw [show ((i + 2 + 4 - 1 : Nat) : Int) = (i : Int) + 2 + 4 - 1 by omega]
                                  rfl
                          · by_cases hU : ch = 85
                            · subst hU
                              have hes := HESV.out rfl
                              have hqo := HQO.out
                              have hqn := HQN.out
                              rw [hes] at hqo hqn
                              have HQ1 := Lib.hid hqo
                              have HQ2 := Lib.hid hqn
                              clear hes hqo hqn hes0
                              go_wp2_with fail
                              go_loopg [8, 15, 16] (8) (fun gk b8 b10 b11 wi => ∃ (k : Nat) (nn : Int), 8 ≤ k + gk ∧ k ≤ 8 ∧ i + 2 + k ≤ rs.length ∧ 0 ≤ nn ∧ nn < 16 ^ k ∧ hexF rs (8 - k) (i + 2 + k) nn = hexF rs 8 (i + 1 + 1) 0 ∧ b8 = .int .i64 ((i + 2 + k : Nat) : Int) ∧ b10 = .int .i64 nn ∧ b11 = .int .i64 (k : Int) ∧ wr = wi)
                              case atStart => exact ⟨0, 0, by omega, by omega, by omega, by decide, by decide, rfl, rfl, rfl, rfl, rfl⟩
                              case round =>
                                obtain ⟨k, nn, hgk, hk, hpk, hn0, hn1, hx, rfl, rfl, rfl, rfl⟩ := hrel
                                have hp16 := pow16 k (by omega)
                                have HX := Lib.hid hx
                                clear hx
                                by_cases hkm : k < 8
                                · obtain ⟨j, hj⟩ : ∃ j, 8 - k = j + 1 := ⟨8 - k - 1, by omega⟩
                                  have hx2 := HX.out
                                  rw [hj, hexF_succ] at hx2
                                  by_cases hq : i + 2 + k < rs.length
                                  · have cq := HSW.out.cell hq
                                    have HHH := Lib.hid (HH.out (peekOf rs (i + 2 + k)) wr)
                                    have hdb := hexR_le (peekOf rs (i + 2 + k))
                                    by_cases hd : hexR (peekOf rs (i + 2 + k)) < 0
                                    · rw [if_pos hd] at hx2
                                      have hnr : numR rs 8 (i + 1 + 1) = (0, i + 2 + k, false) := by unfold numR; rw [← hx2]; rfl
                                      have hrr := HQ2.out
                                      rw [hnr] at hrr
                                      have hrr := hrr rfl
                                      subst hrr
                                      clear hnr hx2
                                      generalize hexR (peekOf rs (i + 2 + k)) = d at *
                                      go_wp2_with fail
                                      refine HHH.out.mono ?_
                                      rintro e w2 ⟨rfl, rfl⟩
                                      go_wp2_with fail
                                      go_ret3
                                      exact ⟨⟨none, 0, rfl, World.ownsRow_nil _ _ _ _⟩, HF.out⟩
                                    · rw [if_neg hd] at hx2
                                      have HXX := Lib.hid hx2
                                      have HP4 : 16 * nn + hexR (peekOf rs (i + 2 + k)) < 16 ^ (k + 1) := by rw [Int.pow_succ]; omega
                                      generalize hexR (peekOf rs (i + 2 + k)) = d at *
                                      clear hx2
                                      have w1 : wrap64 (nn * 16) = nn * 16 := IntWalk.wrap64_in _ (by omega)
                                      have w2 : wrap64 (nn * 16 + d) = nn * 16 + d := IntWalk.wrap64_in _ (by omega)
                                      go_wp2_with fail
                                      refine HHH.out.mono ?_
                                      rintro e w2 ⟨rfl, rfl⟩
                                      go_wp2_with fail
                                      refine HHH.out.mono ?_
                                      rintro e w2 ⟨rfl, rfl⟩
                                      go_wp2_with fail
                                      go_roundg (8 - (k + 1))
                                      case measure => omega
                                      case rel => exact ⟨k + 1, nn * 16 + d, by omega, by omega, by omega, by omega, by rw [Int.mul_comm nn 16]; exact HP4, by rw [show 8 - (k + 1) = j by omega, Int.mul_comm nn 16]; exact HXX.out, rfl, rfl, rfl, rfl⟩
                                  · have hd : hexR (peekOf rs (i + 2 + k)) < 0 := by rw [peek_past hq]; decide
                                    rw [if_pos hd] at hx2
                                    have hnr : numR rs 8 (i + 1 + 1) = (0, i + 2 + k, false) := by unfold numR; rw [← hx2]; rfl
                                    have hrr := HQ2.out
                                    rw [hnr] at hrr
                                    have hrr := hrr rfl
                                    subst hrr
                                    clear hnr hx2 hd
                                    go_wp2_with fail
                                    go_ret3
                                    exact ⟨⟨none, 0, rfl, World.ownsRow_nil _ _ _ _⟩, HF.out⟩
                                · obtain rfl : k = 8 := by omega
                                  have hx2 := HX.out
                                  rw [Nat.sub_self, hexF_zero] at hx2
                                  have HSS := Lib.hid (HSI.out nn wr)
                                  by_cases hsg2 : signR nn = true
                                  · have hnr : numR rs 8 (i + 1 + 1) = (nn, i + 2 + 8, true) := by unfold numR; rw [← hx2, if_pos rfl, if_pos hsg2]
                                    have hrr := HQ1.out
                                    rw [hnr] at hrr
                                    have HRR := Lib.hid (hrr rfl).symm
                                    rw [show rSign nn = true from hsg2] at HSS
                                    clear hrr hnr hx2
                                    go_wp2_with fail
                                    refine HSS.out.mono ?_
                                    rintro e w2 ⟨rfl, rfl⟩
                                    go_wp2_with (at_builtin; refine wpList_append_own _ rfl _ _ 48 rfl w.heap.size 3 i3 _ 1 8 Tryz.underlying48 hi3 hz0 hz1 hz2 rfl (by decide) (.slice A6 out.length c6) out.length (out.map (.int .i64)) (by rfl) (HROW.out.alloc _) ⟨wr.heap.size, 0, none⟩ 1 1 [.int .i64 nn] (by rfl) rfl (World.news_of_block (heap_alloc_new wr _)) (by intro u hu; rw [List.mem_singleton] at hu; rw [hu]; rfl) (by unfold maxLen; omega) (by omega) (by simp; omega) ?_; intro v7 w7 hown7 hgr7 _; have F7 := (show Fr (fun j => w.heap.size ≤ j) w w7 from ((HF.out.mono (fun _ _ h => h.elim)).alloc _).trans ((Fr.of_grown hgr7).mono (fun j _ e => (HROW.out.lt j e).1)) (fun _ _ h => h)); have HOWN7 := Lib.hid hown7; have HF7 := Lib.hid (F7.shut (Nat.le_refl _)); clear hown7 hgr7 F7)
                                    go_roundg (rs.length + 1 - (i + 2 + 8))
                                    case measure => omega
                                    case rel => exact ⟨i + 2 + 8, out ++ [nn], rfl, by omega, by omega, by rw [List.length_append]; show out.length + 1 ≤ _; omega, HRR.out, by rw [List.length_append, List.map_append]; exact HOWN7.out, HF7.out⟩
                                  · have hsf : signR nn = false := by simpa using hsg2
                                    have hnr : numR rs 8 (i + 1 + 1) = (0, i + 2 + 8 - 1, false) := by unfold numR; rw [← hx2, if_pos rfl, if_neg hsg2]
                                    have hrr := HQ2.out
                                    rw [hnr] at hrr
                                    have hrr := hrr rfl
                                    subst hrr
                                    rw [show rSign nn = false from hsf] at HSS
                                    clear hnr hx2
                                    go_wp2_with fail
                                    refine HSS.out.mono ?_
                                    rintro e w2 ⟨rfl, rfl⟩
                                    go_wp2_with fail
                                    go_ret3
                                    refine ⟨⟨none, 0, ?_, World.ownsRow_nil _ _ _ _⟩, HF.out⟩
                                    show _ = Ending.returned (.tuple #[.slice none 0 0, .int .i64 ((i + 2 + 8 - 1 : Nat) : Int), .bool false])
                                    rw [show ((i + 2 + 8 - 1 : Nat) : Int) = (i : Int) + 2 + 8 - 1 by omega]
                                    rfl
                            · have hes := HESN.out hes0 hu hU
                              have hq := HQN.out (by rw [hes])
                              rw [hes] at hq
                              subst hq
                              have bu : (ch == 117) = false := by simpa using hu
                              have bU : (ch == 85) = false := by simpa using hU
                              clear hes hes0
                              go_wp2_with fail
                              go_ret3
                              exact ⟨⟨none, 0, rfl, World.ownsRow_nil _ _ _ _⟩, HF.out⟩
                · have hpk := peek_past hil2
                  have hes := escT_no (rs := rs) (p := i + 1) (by rw [hpk]; rfl) (by rw [hpk]; decide) (by rw [hpk]; decide)
                  have hq := (quotT_no (rs := rs) (i := i) out h92 (by rw [hes])).symm.trans HIR.out
                  rw [hes] at hq
                  subst hq
                  clear hes hpk
                  go_wp2_with fail
                  go_ret3
                  exact ⟨⟨none, 0, rfl, World.ownsRow_nil _ _ _ _⟩, HF.out⟩
              · have HRR := Lib.hid ((quotT_go (rs := rs) (i := i) out hil h34 h92 h10 h13).symm.trans HIR.out)
                have b34 : (peekOf rs i == 34) = false := by simpa using h34
                have b10 : (peekOf rs i == 10) = false := by simpa using h10
                have b13 : (peekOf rs i == 13) = false := by simpa using h13
                have b92 : (peekOf rs i != 92) = true := by simpa using h92
                generalize peekOf rs i = r at *
                go_wp2_with (at_builtin; refine wpList_append_own _ rfl _ _ 48 rfl w.heap.size 3 i3 _ 1 8 Tryz.underlying48 hi3 hz0 hz1 hz2 rfl (by decide) (.slice A6 out.length c6) out.length (out.map (.int .i64)) (by rfl) (HROW.out.alloc _) ⟨wr.heap.size, 0, none⟩ 1 1 [.int .i64 r] (by rfl) rfl (World.news_of_block (heap_alloc_new wr _)) (by intro u hu; rw [List.mem_singleton] at hu; rw [hu]; rfl) (by unfold maxLen; omega) (by omega) (by simp; omega) ?_; intro v7 w7 hown7 hgr7 _; have F7 := (show Fr (fun j => w.heap.size ≤ j) w w7 from ((HF.out.mono (fun _ _ h => h.elim)).alloc _).trans ((Fr.of_grown hgr7).mono (fun j _ e => (HROW.out.lt j e).1)) (fun _ _ h => h)); have HOWN7 := Lib.hid hown7; have HF7 := Lib.hid (F7.shut (Nat.le_refl _)); clear hown7 hgr7 F7)
                go_roundg (rs.length + 1 - (i + 1))
                case measure => omega
                case rel => exact ⟨i + 1, out ++ [r], rfl, by omega, by omega, by rw [List.length_append]; show out.length + 1 ≤ _; omega, HRR.out, by rw [List.length_append, List.map_append]; exact HOWN7.out, HF7.out⟩
      · have hrr := (quotT_end (rs := rs) (i := i) HV0.out out (.inl (peek_past hil))).symm.trans HIR.out
        subst hrr
        go_wp2_with fail
        go_ret3
        exact ⟨⟨none, 0, rfl, World.ownsRow_nil _ _ _ _⟩, HF.out⟩
  · rw [if_neg hp0] at hres
    subst hres
    by_cases hplt : p < rs.length
    · have c0 := HS.out.cell hplt
      have b0 : (peekOf rs p != 34) = true := by simpa using hp0
      generalize peekOf rs p = r at *
      go_enter Tryz.func45, Tryz.ntmps45
      go_wp2_with fail
      go_ret3
      exact ⟨⟨none, 0, rfl, World.ownsRow_nil _ _ _ _⟩, Fr.refl _ _⟩
    · go_enter Tryz.func45, Tryz.ntmps45
      go_wp2_with fail
      go_ret3
      exact ⟨⟨none, 0, rfl, World.ownsRow_nil _ _ _ _⟩, Fr.refl _ _⟩

end Go.Proofs.YtebddgdkndmpjaaGreatDoor
