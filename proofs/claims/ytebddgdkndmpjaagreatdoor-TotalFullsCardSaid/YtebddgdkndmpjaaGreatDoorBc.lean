/- Signs of some classes that follow; blanks: walked. -/
import Derived.Test.YtebddgdkndmpjaaGreatDoorBb
import Derived.Laws.Cover4
import Derived.Deep.CutBlock
import Derived.Deep.RegionLawGrows
import Derived.Deep.Cut
import Derived.Deep.CutRange
import Derived.WalkKit
import Derived.WalkLawsBesides
import Derived.WalkSpells
import Derived.Deep.QuietTactic
import Derived.BigRegion
import Derived.BigQuiet
import Derived.Lib.Hide
import Derived.Outline
import Derived.Deep.AppendLies
import Derived.Deep.RegionLaw
import Derived.Deep.RegionWith
import Derived.Deep.RegionHeld3
import Derived.Deep.LoopGhost
import Derived.Deep.DeepFit
import Derived.Laws.ResultCell
import Derived.Laws.RangeAny
import Derived.Deep.MidRow
import Derived.StillTailTactics
import Derived.OpenShut
namespace Go.Proofs.YtebddgdkndmpjaaGreatDoor
set_option linter.unusedVariables false
open Go.RowKit Go

/-- Whether an int stands in a list. -/
def IdxPost (w : World) (r : Bool) (e : Ending) (w' : World) : Prop := ∃ k : Int, e = .returned (.int .i64 k) ∧ decide (k ≥ 0) = r ∧ Fr (fun _ => False) w w'

set_option maxRecDepth 100000 in
set_option maxHeartbeats 4000000 in
theorem idxI_any (B c : Nat) (A : Option Addr) (cs : List Int) (x : Int) (w : World) (hn : cs.length ≤ 100) (hr : IntRow w B (.slice A cs.length c) cs) : Calls Tryz.prog 257 #[.slice A cs.length c, .int .i64 x] w (IdxPost w (cs.contains x)) := by
  have HR := Lib.hid hr
  obtain ⟨bb, hbb⟩ : ∃ bb, bb = cs.contains x := ⟨_, rfl⟩
  rw [← hbb]
  have HBB := Lib.hid hbb
  clear hbb hr
  go_enter Tryz.func257, Tryz.ntmps257
  go_wp2_with fail
  go_loopw [8] (fun iv wr => ∃ k : Nat, iv = .int .i64 (k : Int) ∧ k ≤ cs.length ∧ Fr (fun _ => False) w wr ∧ ∀ j, j < k → ¬ x = cs.getD j 0) (fun iv _ => cs.length - (intOf iv).toNat)
  case atStart => exact ⟨0, rfl, Nat.zero_le _, Fr.refl _ _, fun j hj => absurd hj (by omega)⟩
  case round =>
    obtain ⟨k, rfl, hk, hf, hno⟩ := hrel
    have HF := Lib.hid hf
    have HNO := Lib.hid hno
    by_cases hlt : k < cs.length
    · have hlt' : (k : Int) < (cs.length : Int) := by omega
      have hr1 := HR.out.fr hf (fun _ _ h => h)
      unfold IntRow at hr1
      obtain ⟨g, rfl, _, _, _⟩ := row_form hr1 (by omega)
      have cc := int_cell hr1 k hlt
      have HG := Lib.hid (show cs.getD k 0 ∈ cs by rw [List.getD_eq_getElem?_getD, List.getElem?_eq_getElem hlt]; exact List.getElem_mem hlt)
      generalize hy : cs.getD k 0 = y at *
      have HY := Lib.hid hy
      clear hr1 hf hno hy
      by_cases hxy : x = y
      · subst hxy
        have hbt : bb = true := by rw [HBB.out]; simpa using HG.out
        subst hbt
        go_wp2_with fail
        go_ret
        exact ⟨_, rfl, decide_eq_true (by omega), HF.out⟩
      · have hxy' : (x == y) = false := by simpa using hxy
        go_wp2_with fail
        go_roundw
        case rel => exact ⟨k + 1, by go_num, by omega, HF.out, fun j hj => by
          by_cases hjk : j < k
          · exact HNO.out j hjk
          · have : j = k := by omega
            subst this
            rw [HY.out]; exact hxy⟩
        case measure => simp only [intOf]; omega
    · have hlt' : ¬ (k : Int) < (cs.length : Int) := by omega
      have hbf : bb = false := by
        rw [HBB.out]
        rw [List.contains_eq_any_beq, List.any_eq_false]
        intro y hy
        obtain ⟨j, hj, rfl⟩ := List.mem_iff_getElem.1 hy
        have h := hno j (by omega)
        rw [List.getD_eq_getElem?_getD, List.getElem?_eq_getElem hj] at h
        simpa using h
      subst hbf
      clear hf hno
      go_wp2_with fail
      go_ret
      exact ⟨_, rfl, rfl, HF.out⟩

set_option maxRecDepth 100000 in
set_option maxHeartbeats 4000000 in
theorem hasI_any (B c : Nat) (A : Option Addr) (cs : List Int) (x : Int) (w : World) (hn : cs.length ≤ 100) (hr : IntRow w B (.slice A cs.length c) cs) : Calls Tryz.prog 204 #[.slice A cs.length c, .int .i64 x] w (IsB (cs.contains x) w) := by
  have HI := Lib.hid (idxI_any B c A cs x w hn hr)
  generalize cs.contains x = bb at *
  clear hr
  go_enter Tryz.func204, Tryz.ntmps204
  go_wp2_with fail
  refine HI.out.mono ?_
  rintro e w1 ⟨k, rfl, hk, hf⟩
  go_wp2_with fail
  go_ret
  exact ⟨by rw [← hk]; rfl, hf⟩

/-- How far signs of some classes go. -/
def skipF (rs cs : List Int) : Nat → Nat → Nat
  | 0, p => p
  | f + 1, p => if p < rs.length ∧ cs.contains (clsOf (rs.getD p 0)) = true then skipF rs cs f (p + 1) else p
def skip (rs cs : List Int) (p : Nat) : Nat := skipF rs cs (rs.length - p) p
theorem skip_step {rs cs : List Int} {p : Nat} (h : p < rs.length) (hc : cs.contains (clsOf (rs.getD p 0)) = true) : skip rs cs p = skip rs cs (p + 1) := by
  unfold skip
  rw [show rs.length - p = (rs.length - (p + 1)) + 1 by omega, skipF, if_pos ⟨h, hc⟩]
theorem skip_stop {rs cs : List Int} {p : Nat} (h : ¬ (p < rs.length ∧ cs.contains (clsOf (rs.getD p 0)) = true)) : skip rs cs p = p := by
  unfold skip
  cases rs.length - p with
  | zero => rfl
  | succ f => rw [skipF, if_neg h]
theorem skip_le (rs cs : List Int) : ∀ m p, rs.length - p ≤ m → p ≤ rs.length → p ≤ skip rs cs p ∧ skip rs cs p ≤ rs.length := by
  intro m
  induction m with
  | zero =>
    intro p h hp
    rw [skip_stop (by omega)]
    omega
  | succ m ih =>
    intro p h hp
    by_cases hc : p < rs.length ∧ cs.contains (clsOf (rs.getD p 0)) = true
    · rw [skip_step hc.1 hc.2]
      have := ih (p + 1) (by omega) (by omega)
      omega
    · rw [skip_stop hc]
      omega

/-- A part of the signs, as a text. -/
theorem runes_of {w : World} {b c g q0 : Nat} {rs : List Int} (h : Sc w b (some ⟨g, 0, none⟩) c rs q0) (a q : Nat) (haq : a ≤ q) (hq : q ≤ rs.length) :
    ∀ cap, (convert 237 9 (.slice (some ⟨g, a, none⟩) (q - a) cap)).run Tryz.prog w = .ok (.string (runesBytes ((rs.drop a).take (q - a)))) w := fun cap =>
  run_convert_runes w 237 9 21 ⟨g, a, none⟩ (q - a) cap (rs.drop a) (by simp; omega) Tryz.underlying237 Tryz.underlying21 Tryz.underlying9 (fun j hj => by
    have hj2 : a + j < rs.length := by simp at hj; omega
    have e : (⟨g, a, none⟩ : Addr).add j = ⟨g, a + j, none⟩ := Addr.add_mid g a j
    rw [e, rune_cell h.row (a + j) hj2]
    simp only [List.getD_eq_getElem?_getD, List.getElem?_drop])

/-- The signs that were gone over, as a text. -/
def RunPost (w : World) (b : Nat) (A : Option Addr) (c : Nat) (rs : List Int) (p q : Nat) (e : Ending) (w' : World) : Prop :=
  e = .returned (.string (runesBytes ((rs.drop p).take (q - p)))) ∧ Sc w' b A c rs q ∧ Fr (fun j => j = b) w w'

set_option maxRecDepth 100000 in
set_option maxHeartbeats 4000000 in
theorem run_sc (b c p B kc : Nat) (A K : Option Addr) (rs cs : List Int) (w : World) (hn : cs.length ≤ 100) (h : Sc w b A c rs p) (hr : IntRow w B (.slice K cs.length kc) cs) :
    Calls Tryz.prog 144 #[.pointer (some ⟨b, 0, none⟩), .slice K cs.length kc] w (RunPost w b A c rs p (skip rs cs p)) := by
  have c1 : w.cell? ⟨b, 1, none⟩ = some (.int .i64 (p : Int)) := h.blk.cell 1
  have hbl := h.blk.lt
  have HS := Lib.hid h
  have HR := Lib.hid hr
  have HE := Lib.hid (fun q w1 h1 => end_sc b c q A rs w1 h1)
  have HP := Lib.hid (fun q w1 h1 => peek_sc b c q A rs w1 h1)
  have HC := Lib.hid (fun x w1 h1 => hasI_any B kc K cs x w1 hn h1)
  have hsm := h.small
  clear h hr
  go_enter Tryz.func144, Tryz.ntmps144
  go_wp2_with fail
  go_loopg [11] (rs.length) (fun g nv wr => ∃ q : Nat, rs.length ≤ q + g ∧ p ≤ q ∧ q ≤ rs.length ∧ skip rs cs q = skip rs cs p ∧ Sc wr b A c rs q ∧ Fr (fun j => j = b) w wr)
  case atStart => exact ⟨p, by omega, Nat.le_refl _, HS.out.le, rfl, HS.out, Fr.refl _ _⟩
  case round =>
    obtain ⟨q, hg, hpq, hq, hsk, hs, hf⟩ := hrel
    have HSK := Lib.hid hsk
    have HSQ := Lib.hid hs
    have HF := Lib.hid hf
    have HEQ := Lib.hid (HE.out q wr hs)
    obtain ⟨g0, rfl, _, _, _⟩ := row_form hs.row hs.pos
    by_cases hq2 : q < rs.length
    · rw [decide_eq_false (by omega)] at HEQ
      by_cases hc : cs.contains (clsOf (rs.getD q 0)) = true
      · have hst := skip_step hq2 hc
        have HST := Lib.hid hst
        have HPK := Lib.hid (fun w1 h1 => HP.out q w1 h1)
        unfold peekOf at HPK
        rw [if_pos hq2] at HPK
        have hval := (hs.valid (rs.getD q 0) (by rw [List.getD_eq_getElem?_getD, List.getElem?_eq_getElem hq2]; exact List.getElem_mem hq2)).1
        have HCL := Lib.hid (fun w1 => cls_any (rs.getD q 0) w1 (.inr hval))
        have HCC := Lib.hid (fun w1 h1 => HC.out (clsOf (rs.getD q 0)) w1 h1)
        rw [hc] at HCC
        generalize clsOf (rs.getD q 0) = kk at *
        generalize rs.getD q 0 = rr at *
        clear hs hf hst hsk
        go_wp2_with fail
        refine HEQ.out.mono ?_
        rintro e w1 ⟨rfl, hf1⟩
        have HS1 := Lib.hid (HSQ.out.frF hf1)
        have HF1 := Lib.hid (HF.out.trans hf1 (fun _ _ h => h.elim))
        clear hf1
        go_wp2_with fail
        refine (HPK.out _ HS1.out).mono ?_
        rintro e w2 ⟨rfl, hf2⟩
        have HS2 := Lib.hid (HS1.out.frF hf2)
        have HF2 := Lib.hid (HF1.out.trans hf2 (fun _ _ h => h.elim))
        clear hf2
        go_wp2_with fail
        refine (HCL.out _).mono ?_
        rintro e w3 ⟨rfl, rfl⟩
        go_wp2_with fail
        refine (HCC.out _ (HR.out.fr HF2.out (fun j hj e => own_blk_ne HR.out HS.out.blk (by decide) (by rw [hj, e])))).mono ?_
        rintro e w4 ⟨rfl, hf4⟩
        have hs4 := HS2.out.frF hf4
        have c14 : w4.cell? ⟨b, 1, none⟩ = some (.int .i64 (q : Int)) := hs4.blk.cell 1
        have f14 := hs4.blk.frozen 1
        have hl4 := hs4.blk.lt
        have HG := Lib.hid (hs4.go (q + 1) (by omega))
        have HF4 := Lib.hid (HF2.out.trans hf4 (fun _ _ h => h.elim))
        clear hs4 hf4
        go_wp2_with fail
        go_roundg (rs.length - (q + 1))
        case measure => omega
        case rel => exact ⟨q + 1, by omega, by omega, by omega, by rw [← HST.out]; exact HSK.out, HG.out.1, HF4.out.trans' HG.out.2⟩
      · have HST := Lib.hid (skip_stop (rs := rs) (cs := cs) (p := q) (fun h => hc h.2))
        have HPK := Lib.hid (fun w1 h1 => HP.out q w1 h1)
        unfold peekOf at HPK
        rw [if_pos hq2] at HPK
        have hval := (hs.valid (rs.getD q 0) (by rw [List.getD_eq_getElem?_getD, List.getElem?_eq_getElem hq2]; exact List.getElem_mem hq2)).1
        have HCL := Lib.hid (fun w1 => cls_any (rs.getD q 0) w1 (.inr hval))
        have HCC := Lib.hid (fun w1 h1 => HC.out (clsOf (rs.getD q 0)) w1 h1)
        have hcf : cs.contains (clsOf (rs.getD q 0)) = false := by simpa using hc
        rw [hcf] at HCC
        generalize clsOf (rs.getD q 0) = kk at *
        generalize rs.getD q 0 = rr at *
        clear hs hf hsk hc hcf
        go_wp2_with fail
        refine HEQ.out.mono ?_
        rintro e w1 ⟨rfl, hf1⟩
        have HS1 := Lib.hid (HSQ.out.frF hf1)
        have HF1 := Lib.hid (HF.out.trans hf1 (fun _ _ h => h.elim))
        clear hf1
        go_wp2_with fail
        refine (HPK.out _ HS1.out).mono ?_
        rintro e w2 ⟨rfl, hf2⟩
        have HS2 := Lib.hid (HS1.out.frF hf2)
        have HF2 := Lib.hid (HF1.out.trans hf2 (fun _ _ h => h.elim))
        clear hf2
        go_wp2_with fail
        refine (HCL.out _).mono ?_
        rintro e w3 ⟨rfl, rfl⟩
        go_wp2_with fail
        refine (HCC.out _ (HR.out.fr HF2.out (fun j hj e => own_blk_ne HR.out HS.out.blk (by decide) (by rw [hj, e])))).mono ?_
        rintro e w4 ⟨rfl, hf4⟩
        have hs4 := HS2.out.frF hf4
        have hcv := fun n => runes_of (hs4.frF ((Fr.refl _ w4).drewN n)) p q hpq hq
        have c04 : w4.cell? ⟨b, 0, none⟩ = some (.slice (some ⟨g0, 0, none⟩) rs.length c) := hs4.blk.cell 0
        have c14 : w4.cell? ⟨b, 1, none⟩ = some (.int .i64 (q : Int)) := hs4.blk.cell 1
        have hqc : (q : Int) ≤ (c : Int) := by have := row_le hs4.row; omega
        have hqn : q ≤ c := by have := row_le hs4.row; omega
        have hpi : (p : Int) ≤ (q : Int) := by omega
        have HF4 := Lib.hid (HF2.out.trans hf4 (fun _ _ h => h.elim))
        have HS4 := Lib.hid hs4
        have HQ := Lib.hid (show q = skip rs cs p by rw [← HSK.out, HST.out])
        generalize skip rs cs p = qq at *
        clear hs4 hf4
        go_wp2_with fail
        go_big_quiet (fail)
        have hqe := HQ.out
        subst hqe
        go_wp2_with fail
        go_ret
        exact ⟨rfl, HS4.out.frF ((Fr.refl _ _).drewN _), HF4.out.drewN _⟩
    · rw [decide_eq_true (by omega)] at HEQ
      have HST := Lib.hid (skip_stop (rs := rs) (cs := cs) (p := q) (fun h => hq2 h.1))
      clear hs hf hsk
      go_wp2_with fail
      refine HEQ.out.mono ?_
      rintro e w4 ⟨rfl, hf4⟩
      have hs4 := HSQ.out.frF hf4
      have hcv := fun n => runes_of (hs4.frF ((Fr.refl _ w4).drewN n)) p q hpq hq
      have c04 : w4.cell? ⟨b, 0, none⟩ = some (.slice (some ⟨g0, 0, none⟩) rs.length c) := hs4.blk.cell 0
      have c14 : w4.cell? ⟨b, 1, none⟩ = some (.int .i64 (q : Int)) := hs4.blk.cell 1
      have hqc : (q : Int) ≤ (c : Int) := by have := row_le hs4.row; omega
      have hqn : q ≤ c := by have := row_le hs4.row; omega
      have hpi : (p : Int) ≤ (q : Int) := by omega
      have HF4 := Lib.hid (HF.out.trans hf4 (fun _ _ h => h.elim))
      have HS4 := Lib.hid hs4
      have HQ := Lib.hid (show q = skip rs cs p by rw [← HSK.out, HST.out])
      generalize skip rs cs p = qq at *
      clear hs4 hf4 hq2
      by_cases hcp : c = p
      · have hqp : q - p = 0 := by omega
        have hcv0 : ∀ n cap, (convert 237 9 (.slice (some ⟨g0, 0, none⟩) (q - p) cap)).run Tryz.prog (w4.drewN n) = .ok (.string (runesBytes ((rs.drop p).take (q - p)))) (w4.drewN n) := fun n cap => by
          rw [hqp]
          exact runes_of (HS4.out.frF ((Fr.refl _ w4).drewN n)) 0 0 (Nat.le_refl _) (Nat.zero_le _) cap
        clear hcv hqp
        go_wp2_with fail
        go_big_quiet (fail)
        subst hcp
        have hqe := HQ.out
        subst hqe
        go_wp2_with fail
        go_ret
        exact ⟨by rw [show q - c = 0 by omega, List.take_zero]; rfl, HS4.out.frF ((Fr.refl _ _).drewN _), HF4.out.drewN _⟩
      · go_wp2_with fail
        go_big_quiet (fail)
        have hqe := HQ.out
        subst hqe
        go_wp2_with fail
        go_ret
        exact ⟨rfl, HS4.out.frF ((Fr.refl _ _).drewN _), HF4.out.drewN _⟩

set_option maxRecDepth 100000 in
set_option maxHeartbeats 4000000 in
theorem blanks_sc (b c p : Nat) (A : Option Addr) (rs : List Int) (w : World) (h : Sc w b A c rs p) :
    Calls Tryz.prog 88 #[.pointer (some ⟨b, 0, none⟩)] w fun e w' => (∃ k : Int, e = .returned (.int .i64 k)) ∧ Sc w' b A c rs (skip rs [0] p) ∧ Fr (fun j => j = b) w w' := by
  have hf : Fr (fun _ => False) w (w.alloc (.cells #[.int .i64 0] 3)) := (Fr.refl _ _).alloc _
  have hown := World.ownsRow_lit (base := 0) (e := 3) (size := 1) w #[.int .i64 0] 1 (Nat.zero_le _) (by decide) rfl
  have HR := Lib.hid (run_sc b c p 0 1 A (some ⟨w.heap.size, 0, none⟩) rs [0] _ (by decide) (h.frF hf) hown)
  have HF := Lib.hid hf
  generalize skip rs [0] p = q at *
  clear h hown hf
  go_enter Tryz.func88, Tryz.ntmps88
  go_wp2_with fail
  refine HR.out.mono ?_
  rintro e w1 ⟨rfl, hs1, hf1⟩
  have HS1 := Lib.hid hs1
  have HF1 := Lib.hid ((HF.out.mono (fun _ _ h => h.elim)).trans' hf1)
  generalize runesBytes ((rs.drop p).take (q - p)) = str at *
  clear hs1 hf1
  go_wp2_with fail
  go_ret
  exact ⟨⟨_, rfl⟩, HS1.out, HF1.out⟩

end Go.Proofs.YtebddgdkndmpjaaGreatDoor
