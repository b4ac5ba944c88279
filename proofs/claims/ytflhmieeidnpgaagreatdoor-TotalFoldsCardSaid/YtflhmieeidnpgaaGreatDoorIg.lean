/- The document's numbers: Add, Fits, Text: walked. -/
import Derived.Test.YtflhmieeidnpgaaGreatDoorIf
import Derived.Test.YtflhmieeidnpgaaGreatDoorIc
import Derived.Deep.CutBlock
import Derived.Deep.RegionLawGrows
import Derived.Deep.Cut
import Derived.Deep.CutRange
import Derived.WalkKit
import Derived.WalkLawsBesides
import Derived.WalkSpells
import Derived.Deep.QuietTactic
import Derived.BigRegion
import Derived.BigQuiet
import Derived.Lib.Hide
import Derived.Outline
import Derived.Deep.AppendLies
import Derived.Deep.RegionLaw
import Derived.Deep.RegionWith
import Derived.Deep.RegionHeld3
import Derived.Deep.LoopGhost
import Derived.Deep.DeepFit
import Derived.Laws.ResultCell
import Derived.Laws.RangeAny
import Derived.Deep.MidRow
import Derived.StillTailTactics
import Derived.OpenShut
import Derived.IntWalk
namespace Go.Proofs.YtflhmieeidnpgaaGreatDoor
set_option linter.unusedVariables false
open Go.RowKit Go


theorem IsBig.open_ {w : World} {B : Nat} {v : Value} {n : Int} (h : IsBig w B v n) : ∃ A c, v = .agg #[.bool (decide (n < 0)), .slice A (digs n.natAbs).length c] ∧ DRow w B (.slice A (digs n.natAbs).length c) (digs n.natAbs) := h
theorem IsBig.fr {w w' : World} {B : Nat} {v : Value} {n : Int} (h : IsBig w B v n) (hf : Fr (fun _ => False) w w') : IsBig w' B v n := by
  obtain ⟨A, c, h1, h2⟩ := h
  exact ⟨A, c, h1, h2.fr hf⟩
theorem digs_norm (n : Nat) : dval (digs n) = n := dval_digs n
def AddPost (w : World) (n : Int) (e : Ending) (w' : World) : Prop := ∃ v, e = .returned v ∧ IsBig w' w.heap.size v n ∧ Fr (fun _ => False) w w'
def PlusPost (w : World) (n : Nat) (m : Nat) (e : Ending) (w' : World) : Prop := ∃ v'', e = .returned v'' ∧ ∃ l, DRow w' w.heap.size v'' l ∧ (∀ d, d ∈ l → d < 10) ∧ dval l = n ∧ l.length ≤ m ∧ Fr (fun _ => False) w w'
theorem sum_same {a b : Int} (h : decide (a < 0) = decide (b < 0)) : sgn (decide (a < 0)) (a.natAbs + b.natAbs) = a + b := by
  unfold sgn
  by_cases ha : a < 0
  · have hb : b < 0 := by
      rw [decide_eq_true ha] at h
      exact of_decide_eq_true h.symm
    rw [if_pos (decide_eq_true ha)]
    omega
  · have hb : ¬ b < 0 := by
      rw [decide_eq_false ha] at h
      exact of_decide_eq_false h.symm
    rw [if_neg (by simpa using ha)]
    omega
theorem sum_diff {a b : Int} (h : decide (a < 0) ≠ decide (b < 0)) (hle : b.natAbs ≤ a.natAbs) : sgn (decide (a < 0)) (a.natAbs - b.natAbs) = a + b := by
  unfold sgn
  by_cases ha : a < 0
  · have hb : ¬ b < 0 := fun hb => h (by rw [decide_eq_true ha, decide_eq_true hb])
    rw [if_pos (decide_eq_true ha)]
    omega
  · have hb : b < 0 := by
      by_cases hb : b < 0
      · exact hb
      · exact absurd (by rw [decide_eq_false ha, decide_eq_false hb]) h
    rw [if_neg (by simpa using ha)]
    omega
set_option maxRecDepth 100000 in
set_option maxHeartbeats 4000000 in
theorem dadd_any (B B' : Nat) (x y : Value) (a b : Int) (w : World) (hla : (digs a.natAbs).length ≤ 1000) (hlb : (digs b.natAbs).length ≤ 1000) (ha : IsBig w B x a) (hb : IsBig w B' y b) :
    Calls Tryz.prog 34 #[x, y] w (AddPost w (a + b)) := by
  obtain ⟨A1, c1, rfl, hra⟩ := ha.open_
  obtain ⟨A2, c2, rfl, hrb⟩ := hb.open_
  obtain ⟨na, hna⟩ : ∃ n, (digs a.natAbs).length = n := ⟨_, rfl⟩
  obtain ⟨nb, hnb⟩ : ∃ n, (digs b.natAbs).length = n := ⟨_, rfl⟩
  rw [hna] at hra hla ⊢
  rw [hnb] at hrb hlb ⊢
  obtain ⟨sa, hsa⟩ : ∃ s, decide (a < 0) = s := ⟨_, rfl⟩
  obtain ⟨sb, hsb⟩ : ∃ s, decide (b < 0) = s := ⟨_, rfl⟩
  rw [hsa, hsb]
  have HSA := Lib.hid hsa
  have HSB := Lib.hid hsb
  have HNA := Lib.hid hna
  have HNB := Lib.hid hnb
  have hA := ((Blk.new w 83 #[.bool sa, .slice A1 na c1]).alloc (.cells #[.bool sb, .slice A2 nb c2] 83)).alloc (.cells #[.bool false, .slice none 0 0] 83)
  have hB := (Blk.new (w.alloc (.cells #[.bool sa, .slice A1 na c1] 83)) 83 #[.bool sb, .slice A2 nb c2]).alloc (.cells #[.bool false, .slice none 0 0] 83)
  have hZ := Blk.new ((w.alloc (.cells #[.bool sa, .slice A1 na c1] 83)).alloc (.cells #[.bool sb, .slice A2 nb c2] 83)) 83 #[.bool false, .slice none 0 0]
  rw [show (w.alloc (.cells #[.bool sa, .slice A1 na c1] 83)).heap.size = w.heap.size + 1 by simp] at hB
  rw [show ((w.alloc (.cells #[.bool sa, .slice A1 na c1] 83)).alloc (.cells #[.bool sb, .slice A2 nb c2] 83)).heap.size = w.heap.size + 1 + 1 by simp] at hZ
  have HBA := Lib.hid hA
  have HBB := Lib.hid hB
  have HBZ := Lib.hid hZ
  have F0 : Fr (fun _ => False) w (((w.alloc (.cells #[.bool sa, .slice A1 na c1] 83)).alloc (.cells #[.bool sb, .slice A2 nb c2] 83)).alloc (.cells #[.bool false, .slice none 0 0] 83)) := (((Fr.refl _ _).alloc _).alloc _).alloc _
  have HS := Lib.hid (fun (w' : World) (hf : Fr (fun j => j = w.heap.size + 1 + 1) (((w.alloc (.cells #[.bool sa, .slice A1 na c1] 83)).alloc (.cells #[.bool sb, .slice A2 nb c2] 83)).alloc (.cells #[.bool false, .slice none 0 0] 83)) w') =>
    (⟨(hA.fr hf (by omega)).cell 0, (hA.fr hf (by omega)).cell 1, (hB.fr hf (by omega)).cell 0, (hB.fr hf (by omega)).cell 1⟩ : w'.cell? ⟨w.heap.size, 0, none⟩ = some (.bool sa) ∧ w'.cell? ⟨w.heap.size, 1, none⟩ = some (.slice A1 na c1) ∧ w'.cell? ⟨w.heap.size + 1, 0, none⟩ = some (.bool sb) ∧ w'.cell? ⟨w.heap.size + 1, 1, none⟩ = some (.slice A2 nb c2)))
  obtain ⟨s0, s1, s2, s3⟩ := HS.out _ (Fr.refl _ _)
  have hpl : ∀ wy, Fr (fun _ => False) w wy → Calls Tryz.prog 71 #[.slice A1 na c1, .slice A2 nb c2] wy (PlusPost wy (a.natAbs + b.natAbs) (na + nb + 1)) := fun wy hf => (plus_any B B' (.slice A1 na c1) (.slice A2 nb c2) (digs a.natAbs) (digs b.natAbs) wy (by omega) (by omega) (hra.fr hf) (hrb.fr hf) (digs_lt _) (digs_lt _)).mono (fun e w' h => by
    rw [dval_digs, dval_digs, hna, hnb] at h
    exact h)
  have HPL := Lib.hid hpl
  clear hpl
  have HTR := Lib.hid (fun (s : Bool) (B : Nat) (v : Value) (l : List Nat) (wy : World) h1 h2 h3 => trim_any s B v l wy h1 h2 h3)
  have HF0 := Lib.hid F0
  have HRA := Lib.hid hra
  have HRB := Lib.hid hrb
  clear hsa hsb hna hnb hA hB hZ F0 hra hrb ha hb
  by_cases hs : sa = sb
  · subst hs
    have HSUM := Lib.hid (show sgn sa (a.natAbs + b.natAbs) = a + b from by
      have h := sum_same (a := a) (b := b) (by rw [HSA.out, HSB.out])
      rw [HSA.out] at h
      exact h)
    go_enter Tryz.func34, Tryz.ntmps34
    go_wp2_with fail
    have hsz3 : w.heap.size + 3 ≤ (((w.alloc (.cells #[.bool sa, .slice A1 na c1] 83)).alloc (.cells #[.bool sa, .slice A2 nb c2] 83)).alloc (.cells #[.bool false, .slice none 0 0] 83)).heap.size := by simp
    generalize ((w.alloc (.cells #[.bool sa, .slice A1 na c1] 83)).alloc (.cells #[.bool sa, .slice A2 nb c2] 83)).alloc (.cells #[.bool false, .slice none 0 0] 83) = w3 at *
    go_region_held3 (fun w' => w'.cell? ⟨w.heap.size, 0, none⟩ = some (.bool sa) ∧ w'.cell? ⟨w.heap.size, 1, none⟩ = some (.slice A1 na c1) ∧ w'.cell? ⟨w.heap.size + 1, 0, none⟩ = some (.bool sa) ∧ w'.cell? ⟨w.heap.size + 1, 1, none⟩ = some (.slice A2 nb c2))
      (first | exact HS.out _ (F3 _ _) | exact HS.out _ (F2.mono (fun _ _ h => h.elim)) | exact HS.out _ (F1.mono (fun _ _ h => h.elim)) | exact HS.out _ (((Fr.refl (fun _ => False) w3).drew).mono (fun _ _ h => h.elim)))
      (first
        | (go_at_call 71; refine (HPL.out _ (HF0.out.trans' (Fr.refl (fun _ => False) w3).drew)).mono ?_; rintro e w1 ⟨v1, rfl, l, hrow1, hd1, hv1, hl1, hf1⟩; have F1 : Fr (fun _ => False) w3 w1 := ((Fr.refl (fun _ => False) w3).drew).trans' hf1; replace hrow1 : DRow w1 (w.heap.size + 3) v1 l := (ownsRow_base hrow1 (Nat.le_trans hsz3 ((Fr.refl (fun _ => False) w3).drew).size)); obtain ⟨A8, c8, rfl⟩ := row_shape hrow1)
        | (go_at_call 70; refine (HTR.out sa _ _ l _ (by omega) hd1 hrow1).mono ?_; rintro e w2 ⟨v2, rfl, hbig, hf2⟩; have F2 : Fr (fun _ => False) w3 w2 := F1.trans' hf2; have F3 : ∀ u0 u1, Fr (fun j => j = w.heap.size + 1 + 1) w3 ((w2.setCell ⟨w.heap.size + 1 + 1, 0, none⟩ u0).setCell ⟨w.heap.size + 1 + 1, 1, none⟩ u1) := (fun u0 u1 => Fr.setCell (S := fun j => j = w.heap.size + 1 + 1) (Fr.setCell (S := fun j => j = w.heap.size + 1 + 1) (F2.mono (fun _ _ h => h.elim)) ⟨w.heap.size + 1 + 1, 0, none⟩ (fun _ => rfl) u0) ⟨w.heap.size + 1 + 1, 1, none⟩ (fun _ => rfl) u1); rw [hv1, HSUM.out] at hbig; obtain ⟨A9, c9, rfl, hrow9⟩ := hbig.open_; have z0 := (HBZ.out.fr F2 (fun h => h)).cell 0; have z1 := (HBZ.out.fr F2 (fun h => h)).cell 1; have y0 := (HBZ.out.fr F2 (fun h => h)).frozen 0; have y1 := (HBZ.out.fr F2 (fun h => h)).frozen 1))
    go_wp2_with fail
    exact bodyPost_ret (v := .agg #[.bool (decide (a + b < 0)), .slice A9 (digs (a + b).natAbs).length c9]) (results_cell_row rfl _ _ (w.heap.size + 1 + 1) 83 _ (0, 0) _ rfl (((HBZ.out.fr F2 (fun h => h)).set_ 0 (.bool (decide (a + b < 0)))).set_ 1 (.slice A9 (digs (a + b).natAbs).length c9)) Tryz.underlying83 rfl (by kernel_rfl)) rfl ⟨_, rfl, ⟨A9, c9, rfl, ownsRow_base (ownsRow_set (ownsRow_set hrow9 (w.heap.size + 1 + 1) 0 (by omega) _) (w.heap.size + 1 + 1) 1 (by omega) _) (by omega)⟩, ((HF0.out.trans' F2).setCell ⟨w.heap.size + 1 + 1, 0, none⟩ (fun h => absurd h (by simp; omega)) _).setCell ⟨w.heap.size + 1 + 1, 1, none⟩ (fun h => absurd h (by simp; omega)) _⟩
  · have hs' : (sa == sb) = false := by simp [hs]
    have HNE := Lib.hid (show decide (a < 0) ≠ decide (b < 0) by rw [HSA.out, HSB.out]; exact hs)
    have HSZ := Lib.hid (fun wy (hf : Fr (fun _ => False) w wy) => sizes_any B B' (.slice A1 na c1) (.slice A2 nb c2) (digs a.natAbs) (digs b.natAbs) wy (by rw [HNA.out]; omega) (by rw [HNB.out]; omega) (HRA.out.fr hf) (HRB.out.fr hf) (digs_lt _) (digs_lt _) (fun h => by rw [dval_digs, dval_digs]; exact digs_len_lt h) (fun h => by rw [dval_digs, dval_digs]; exact digs_len_lt h))
    obtain ⟨r, hr⟩ : ∃ r, cmpD (dval (digs a.natAbs)) (dval (digs b.natAbs)) = r := ⟨_, rfl⟩
    rw [hr] at HSZ
    rw [dval_digs, dval_digs] at hr
    have HR := Lib.hid hr
    clear hr hs
    go_enter Tryz.func34, Tryz.ntmps34
    go_wp2_with fail
    have hsz3 : w.heap.size + 3 ≤ (((w.alloc (.cells #[.bool sa, .slice A1 na c1] 83)).alloc (.cells #[.bool sb, .slice A2 nb c2] 83)).alloc (.cells #[.bool false, .slice none 0 0] 83)).heap.size := by simp
    generalize ((w.alloc (.cells #[.bool sa, .slice A1 na c1] 83)).alloc (.cells #[.bool sb, .slice A2 nb c2] 83)).alloc (.cells #[.bool false, .slice none 0 0] 83) = w3 at *
    with_reducible refine (HSZ.out _ HF0.out).mono ?_
    rintro e wq ⟨rfl, hfq⟩
    have HFQ := Lib.hid hfq
    obtain ⟨q0, q1, q2, q3⟩ := HS.out _ (hfq.mono (fun _ _ h => h.elim))
    clear hfq s0 s1 s2 s3
    by_cases hab : b.natAbs ≤ a.natAbs
    · have hr0 : (0 : Int) ≤ r := by
        have h := HR.out
        unfold cmpD at h
        split at h <;> omega
      have hpl : ∀ wy, Fr (fun _ => False) w wy → Calls Tryz.prog 73 #[.slice A1 na c1, .slice A2 nb c2] wy (PlusPost wy (a.natAbs - b.natAbs) (na + nb + 1)) := fun wy hf => (minus_any B B' (.slice A1 na c1) (.slice A2 nb c2) (digs a.natAbs) (digs b.natAbs) wy (by rw [HNA.out]; omega) (digs_mono _ _ hab) (by rw [dval_digs, dval_digs]; exact hab) (HRA.out.fr hf) (HRB.out.fr hf) (digs_lt _) (digs_lt _)).mono (fun e w' h => by
        rw [dval_digs, dval_digs, HNA.out] at h
        obtain ⟨v, h1, l, h2, h3, h4, h5, h6⟩ := h
        exact ⟨v, h1, l, h2, h3, h4, by omega, h6⟩)
      have HPM := Lib.hid hpl
      have HSUM := Lib.hid (show sgn sa (a.natAbs - b.natAbs) = a + b from by
        have h := sum_diff HNE.out hab
        rw [HSA.out] at h
        exact h)
      clear hpl hab
      go_wp2_with fail
      go_region_held3 (fun w' => w'.cell? ⟨w.heap.size, 0, none⟩ = some (.bool sa) ∧ w'.cell? ⟨w.heap.size, 1, none⟩ = some (.slice A1 na c1) ∧ w'.cell? ⟨w.heap.size + 1, 0, none⟩ = some (.bool sb) ∧ w'.cell? ⟨w.heap.size + 1, 1, none⟩ = some (.slice A2 nb c2))
        (first | exact HS.out _ (F3 _ _) | exact HS.out _ (F2.mono (fun _ _ h => h.elim)) | exact HS.out _ (F1.mono (fun _ _ h => h.elim)) | exact HS.out _ ((HFQ.out.drew).mono (fun _ _ h => h.elim)))
        (first
          | (go_at_call 73; refine (HPM.out _ (HF0.out.trans' HFQ.out.drew)).mono ?_; rintro e w1 ⟨v1, rfl, l, hrow1, hd1, hv1, hl1, hf1⟩; have F1 : Fr (fun _ => False) w3 w1 := (HFQ.out.drew).trans' hf1; replace hrow1 : DRow w1 (w.heap.size + 3) v1 l := (ownsRow_base hrow1 (Nat.le_trans hsz3 (HFQ.out.drew).size)); obtain ⟨A8, c8, rfl⟩ := row_shape hrow1)
          | (go_at_call 70; refine (HTR.out sa _ _ l _ (by omega) hd1 hrow1).mono ?_; rintro e w2 ⟨v2, rfl, hbig, hf2⟩; have F2 : Fr (fun _ => False) w3 w2 := F1.trans' hf2; have F3 : ∀ u0 u1, Fr (fun j => j = w.heap.size + 1 + 1) w3 ((w2.setCell ⟨w.heap.size + 1 + 1, 0, none⟩ u0).setCell ⟨w.heap.size + 1 + 1, 1, none⟩ u1) := (fun u0 u1 => Fr.setCell (S := fun j => j = w.heap.size + 1 + 1) (Fr.setCell (S := fun j => j = w.heap.size + 1 + 1) (F2.mono (fun _ _ h => h.elim)) ⟨w.heap.size + 1 + 1, 0, none⟩ (fun _ => rfl) u0) ⟨w.heap.size + 1 + 1, 1, none⟩ (fun _ => rfl) u1); rw [hv1, HSUM.out] at hbig; obtain ⟨A9, c9, rfl, hrow9⟩ := hbig.open_; have z0 := (HBZ.out.fr F2 (fun h => h)).cell 0; have z1 := (HBZ.out.fr F2 (fun h => h)).cell 1; have y0 := (HBZ.out.fr F2 (fun h => h)).frozen 0; have y1 := (HBZ.out.fr F2 (fun h => h)).frozen 1))
      go_wp2_with fail
      exact bodyPost_ret (v := .agg #[.bool (decide (a + b < 0)), .slice A9 (digs (a + b).natAbs).length c9]) (results_cell_row rfl _ _ (w.heap.size + 1 + 1) 83 _ (0, 0) _ rfl (((HBZ.out.fr F2 (fun h => h)).set_ 0 (.bool (decide (a + b < 0)))).set_ 1 (.slice A9 (digs (a + b).natAbs).length c9)) Tryz.underlying83 rfl (by kernel_rfl)) rfl ⟨_, rfl, ⟨A9, c9, rfl, ownsRow_base (ownsRow_set (ownsRow_set hrow9 (w.heap.size + 1 + 1) 0 (by omega) _) (w.heap.size + 1 + 1) 1 (by omega) _) (by omega)⟩, ((HF0.out.trans' F2).setCell ⟨w.heap.size + 1 + 1, 0, none⟩ (fun h => absurd h (by simp; omega)) _).setCell ⟨w.heap.size + 1 + 1, 1, none⟩ (fun h => absurd h (by simp; omega)) _⟩
    · have hr0 : ¬ (0 : Int) ≤ r := by
        have h := HR.out
        unfold cmpD at h
        rw [if_pos (by omega)] at h
        omega
      have hpl : ∀ wy, Fr (fun _ => False) w wy → Calls Tryz.prog 73 #[.slice A2 nb c2, .slice A1 na c1] wy (PlusPost wy (b.natAbs - a.natAbs) (na + nb + 1)) := fun wy hf => (minus_any B' B (.slice A2 nb c2) (.slice A1 na c1) (digs b.natAbs) (digs a.natAbs) wy (by rw [HNB.out]; omega) (digs_mono _ _ (by omega)) (by rw [dval_digs, dval_digs]; omega) (HRB.out.fr hf) (HRA.out.fr hf) (digs_lt _) (digs_lt _)).mono (fun e w' h => by
        rw [dval_digs, dval_digs, HNB.out] at h
        obtain ⟨v, h1, l, h2, h3, h4, h5, h6⟩ := h
        exact ⟨v, h1, l, h2, h3, h4, by omega, h6⟩)
      have HPM := Lib.hid hpl
      have HSUM := Lib.hid (show sgn sb (b.natAbs - a.natAbs) = a + b from by
        have h := sum_diff HNE.out.symm (by omega)
        rw [HSB.out] at h
        rw [h, Int.add_comm])
      clear hpl hab
      go_wp2_with fail
      go_region_held3 (fun w' => w'.cell? ⟨w.heap.size, 0, none⟩ = some (.bool sa) ∧ w'.cell? ⟨w.heap.size, 1, none⟩ = some (.slice A1 na c1) ∧ w'.cell? ⟨w.heap.size + 1, 0, none⟩ = some (.bool sb) ∧ w'.cell? ⟨w.heap.size + 1, 1, none⟩ = some (.slice A2 nb c2))
        (first | exact HS.out _ (F3 _ _) | exact HS.out _ (F2.mono (fun _ _ h => h.elim)) | exact HS.out _ (F1.mono (fun _ _ h => h.elim)) | exact HS.out _ ((HFQ.out.drew).mono (fun _ _ h => h.elim)))
        (first
          | (go_at_call 73; refine (HPM.out _ (HF0.out.trans' HFQ.out.drew)).mono ?_; rintro e w1 ⟨v1, rfl, l, hrow1, hd1, hv1, hl1, hf1⟩; have F1 : Fr (fun _ => False) w3 w1 := (HFQ.out.drew).trans' hf1; replace hrow1 : DRow w1 (w.heap.size + 3) v1 l := (ownsRow_base hrow1 (Nat.le_trans hsz3 (HFQ.out.drew).size)); obtain ⟨A8, c8, rfl⟩ := row_shape hrow1)
          | (go_at_call 70; refine (HTR.out sb _ _ l _ (by omega) hd1 hrow1).mono ?_; rintro e w2 ⟨v2, rfl, hbig, hf2⟩; have F2 : Fr (fun _ => False) w3 w2 := F1.trans' hf2; have F3 : ∀ u0 u1, Fr (fun j => j = w.heap.size + 1 + 1) w3 ((w2.setCell ⟨w.heap.size + 1 + 1, 0, none⟩ u0).setCell ⟨w.heap.size + 1 + 1, 1, none⟩ u1) := (fun u0 u1 => Fr.setCell (S := fun j => j = w.heap.size + 1 + 1) (Fr.setCell (S := fun j => j = w.heap.size + 1 + 1) (F2.mono (fun _ _ h => h.elim)) ⟨w.heap.size + 1 + 1, 0, none⟩ (fun _ => rfl) u0) ⟨w.heap.size + 1 + 1, 1, none⟩ (fun _ => rfl) u1); rw [hv1, HSUM.out] at hbig; obtain ⟨A9, c9, rfl, hrow9⟩ := hbig.open_; have z0 := (HBZ.out.fr F2 (fun h => h)).cell 0; have z1 := (HBZ.out.fr F2 (fun h => h)).cell 1; have y0 := (HBZ.out.fr F2 (fun h => h)).frozen 0; have y1 := (HBZ.out.fr F2 (fun h => h)).frozen 1))
      go_wp2_with fail
      exact bodyPost_ret (v := .agg #[.bool (decide (a + b < 0)), .slice A9 (digs (a + b).natAbs).length c9]) (results_cell_row rfl _ _ (w.heap.size + 1 + 1) 83 _ (0, 0) _ rfl (((HBZ.out.fr F2 (fun h => h)).set_ 0 (.bool (decide (a + b < 0)))).set_ 1 (.slice A9 (digs (a + b).natAbs).length c9)) Tryz.underlying83 rfl (by kernel_rfl)) rfl ⟨_, rfl, ⟨A9, c9, rfl, ownsRow_base (ownsRow_set (ownsRow_set hrow9 (w.heap.size + 1 + 1) 0 (by omega) _) (w.heap.size + 1 + 1) 1 (by omega) _) (by omega)⟩, ((HF0.out.trans' F2).setCell ⟨w.heap.size + 1 + 1, 0, none⟩ (fun h => absurd h (by simp; omega)) _).setCell ⟨w.heap.size + 1 + 1, 1, none⟩ (fun h => absurd h (by simp; omega)) _⟩

theorem cmp_le {m k : Nat} : (cmpD m k ≤ 0) ↔ m ≤ k := by
  unfold cmpD
  split
  · omega
  · split <;> omega
set_option maxRecDepth 100000 in
set_option maxHeartbeats 4000000 in
theorem fits_any (B : Nat) (x : Value) (a : Int) (w : World) (hla : (digs a.natAbs).length ≤ 4096) (ha : IsBig w B x a) :
    Calls Tryz.prog 35 #[x] w fun e w' => e = .returned (.bool (decide (-9223372036854775808 ≤ a ∧ a ≤ 9223372036854775807))) ∧ Fr (fun _ => False) w w' := by
  obtain ⟨A1, c1, rfl, hra⟩ := ha.open_
  obtain ⟨na, hna⟩ : ∃ n, (digs a.natAbs).length = n := ⟨_, rfl⟩
  rw [hna] at hra hla ⊢
  obtain ⟨sa, hsa⟩ : ∃ s, decide (a < 0) = s := ⟨_, rfl⟩
  rw [hsa]
  have HSA := Lib.hid hsa
  have HNA := Lib.hid hna
  have HRA := Lib.hid hra
  have HBA := Lib.hid (Blk.new w 83 #[.bool sa, .slice A1 na c1])
  have HLO := Lib.hid (fun wy => dof_any (-9223372036854775808) (by decide) (by decide) wy)
  have HHI := Lib.hid (fun wy => dof_any 9223372036854775807 (by decide) (by decide) wy)
  obtain ⟨res, hres⟩ : ∃ r, decide (-9223372036854775808 ≤ a ∧ a ≤ 9223372036854775807) = r := ⟨_, rfl⟩
  have HRES := Lib.hid hres
  rw [hres]
  clear hsa hna hra ha hres
  go_enter Tryz.func35, Tryz.ntmps35
  go_wp2_with fail
  with_reducible refine (HLO.out _).mono ?_
  rintro e w1 ⟨v1, rfl, hb1, hf1⟩
  have HF1 := Lib.hid (((Fr.refl (fun _ => False) w).alloc _).trans' hf1)
  obtain ⟨A2, c2, rfl, hr2⟩ := hb1.open_
  have HBA1 := Lib.hid (HBA.out.fr hf1 (fun h => h))
  have HR2 := Lib.hid hr2
  rw [show ((-9223372036854775808 : Int).natAbs) = 9223372036854775808 from rfl] at HR2 ⊢
  rw [show decide ((-9223372036854775808 : Int) < 0) = true from rfl]
  generalize hl2 : (digs 9223372036854775808).length = n2 at *
  have HL2 := Lib.hid hl2
  clear hf1 hb1 hr2 hl2
  go_wp2_with fail
  with_reducible refine (HHI.out _).mono ?_
  rintro e w2 ⟨v2, rfl, hb2, hf2⟩
  have HF2 := Lib.hid (HF1.out.trans' hf2)
  obtain ⟨A3, c3, rfl, hr3⟩ := hb2.open_
  have HBA2 := Lib.hid (HBA1.out.fr hf2 (fun h => h))
  have HR22 := Lib.hid (HR2.out.fr hf2)
  have HR3 := Lib.hid hr3
  rw [show ((9223372036854775807 : Int).natAbs) = 9223372036854775807 from rfl] at HR3 ⊢
  rw [show decide ((9223372036854775807 : Int) < 0) = false from rfl]
  generalize hl3 : (digs 9223372036854775807).length = n3 at *
  have HL3 := Lib.hid hl3
  clear hf2 hb2 hr3 hl3
  have b0 : w2.cell? ⟨w.heap.size, 0, none⟩ = some (.bool sa) := HBA2.out.cell 0
  have b1 : w2.cell? ⟨w.heap.size, 1, none⟩ = some (.slice A1 na c1) := HBA2.out.cell 1
  have hbl := HBA2.out.lt
  have FW : Fr (fun _ => False) w2 ((w2.alloc (.cells #[.bool true, .slice A2 n2 c2] 83)).alloc (.cells #[.bool false, .slice A3 n3 c3] 83)) := ((Fr.refl _ _).alloc _).alloc _
  have HFW := Lib.hid FW
  cases sa with
  | true =>
    have HSZ := Lib.hid (sizes_any B w.heap.size (.slice A1 na c1) (.slice A2 n2 c2) (digs a.natAbs) (digs 9223372036854775808) _ (by rw [HNA.out]; omega) (by have := digs_len 20 9223372036854775808 (by decide); omega) (HRA.out.fr (HF2.out.trans' FW)) (ownsRow_base (HR22.out.fr FW) (by simp)) (digs_lt _) (digs_lt _) (fun h => by rw [dval_digs, dval_digs]; exact digs_len_lt h) (fun h => by rw [dval_digs, dval_digs]; exact digs_len_lt h))
    rw [dval_digs, dval_digs] at HSZ
    obtain ⟨r, hr⟩ : ∃ r, cmpD a.natAbs 9223372036854775808 = r := ⟨_, rfl⟩
    rw [hr] at HSZ
    have hres : decide (r ≤ 0) = res := by
      rw [← HRES.out, ← hr, Bool.eq_iff_iff, decide_eq_true_eq, decide_eq_true_eq, cmp_le]
      have := of_decide_eq_true HSA.out
      omega
    have HRS := Lib.hid hres
    clear hr hres FW
    go_wp2_with fail
    refine HSZ.out.mono ?_
    rintro e w4 ⟨rfl, hf4⟩
    have HF4 := Lib.hid ((HF2.out.trans' HFW.out).trans' hf4)
    clear hf4
    go_wp2_with fail
    go_ret
    exact ⟨by rw [← HRS.out]; rfl, HF4.out⟩
  | false =>
    have HSZ := Lib.hid (sizes_any B w.heap.size (.slice A1 na c1) (.slice A3 n3 c3) (digs a.natAbs) (digs 9223372036854775807) _ (by rw [HNA.out]; omega) (by have := digs_len 20 9223372036854775807 (by decide); omega) (HRA.out.fr (HF2.out.trans' FW)) (ownsRow_base (HR3.out.fr FW) HF1.out.size) (digs_lt _) (digs_lt _) (fun h => by rw [dval_digs, dval_digs]; exact digs_len_lt h) (fun h => by rw [dval_digs, dval_digs]; exact digs_len_lt h))
    rw [dval_digs, dval_digs] at HSZ
    obtain ⟨r, hr⟩ : ∃ r, cmpD a.natAbs 9223372036854775807 = r := ⟨_, rfl⟩
    rw [hr] at HSZ
    have hres : decide (r ≤ 0) = res := by
      rw [← HRES.out, ← hr, Bool.eq_iff_iff, decide_eq_true_eq, decide_eq_true_eq, cmp_le]
      have := of_decide_eq_false HSA.out
      omega
    have HRS := Lib.hid hres
    clear hr hres FW
    go_wp2_with fail
    refine HSZ.out.mono ?_
    rintro e w4 ⟨rfl, hf4⟩
    have HF4 := Lib.hid ((HF2.out.trans' HFW.out).trans' hf4)
    clear hf4
    go_wp2_with fail
    go_ret
    exact ⟨by rw [← HRS.out]; rfl, HF4.out⟩

/-- The text of some digits, behind a sign. -/
def txtOf (pre : List UInt8) (l : List Nat) : ByteArray := ⟨(pre ++ l.reverse.map dbyte).toArray⟩
theorem txt_step (pre : List UInt8) (l : List Nat) (k : Nat) (h0 : 0 < k) (hk : k ≤ l.length) : txtOf pre (l.drop k) ++ ⟨#[dbyte (l.getD (k - 1) 0)]⟩ = txtOf pre (l.drop (k - 1)) := by
  have e : l.drop (k - 1) = l.getD (k - 1) 0 :: l.drop k := by
    rw [List.drop_eq_getElem_cons (by omega), List.getD_eq_getElem?_getD, List.getElem?_eq_getElem (by omega), show k - 1 + 1 = k by omega]
    rfl
  rw [e]
  unfold txtOf
  rw [List.reverse_cons, List.map_append, ← List.append_assoc]
  exact ByteArray.mk_append_mk _ _
theorem slice_dig (d : Nat) (h : d < 10) : ∀ w, (Instr.slice 9 (.string ⟨#[48, 49, 50, 51, 52, 53, 54, 55, 56, 57]⟩) (some (.int .i64 (d : Int))) (some (.int .i64 ((d : Int) + 1))) none).run Tryz.prog w = .ok (.string ⟨#[dbyte d]⟩) w := by
  have h5 : d = 0 ∨ d = 1 ∨ d = 2 ∨ d = 3 ∨ d = 4 ∨ d = 5 ∨ d = 6 ∨ d = 7 ∨ d = 8 ∨ d = 9 := by omega
  rcases h5 with rfl | rfl | rfl | rfl | rfl | rfl | rfl | rfl | rfl | rfl
  all_goals (intro w; kernel_rfl)
set_option maxRecDepth 100000 in
set_option maxHeartbeats 4000000 in
theorem dtext_any (B : Nat) (x : Value) (a : Int) (w : World) (hla : (digs a.natAbs).length ≤ 1000) (ha : IsBig w B x a) :
    Calls Tryz.prog 68 #[x] w fun e w' => e = .returned (.string ⟨(Lib.itoa a).toArray⟩) ∧ Fr (fun _ => False) w w' := by
  obtain ⟨A1, c1, rfl, hra⟩ := ha.open_
  obtain ⟨na, hna⟩ : ∃ n, (digs a.natAbs).length = n := ⟨_, rfl⟩
  rw [hna] at hra hla ⊢
  obtain ⟨sa, hsa⟩ : ∃ s, decide (a < 0) = s := ⟨_, rfl⟩
  rw [hsa]
  have HSA := Lib.hid hsa
  have HNA := Lib.hid hna
  have HRA := Lib.hid hra
  have hB := Blk.new w 83 #[.bool sa, .slice A1 na c1]
  have HBA := Lib.hid hB
  clear hsa hna hra ha hB
  by_cases h0 : a = 0
  · subst h0
    have e0 : na = 0 := by rw [← HNA.out]; show (digs 0).length = 0; rw [digs_zero]; rfl
    subst e0
    have hres : (⟨(Lib.itoa 0).toArray⟩ : ByteArray) = ⟨#[48]⟩ := by
      unfold Lib.itoa
      rw [if_neg (by decide)]
      show (⟨(Lib.decDigits 0).toArray⟩ : ByteArray) = _
      rw [Lib.decDigits, dif_pos (by decide)]
      rfl
    rw [hres]
    clear hres
    go_enter Tryz.func68, Tryz.ntmps68
    go_wp2_with fail
    go_ret
    exact ⟨rfl, (Fr.refl _ _).alloc _⟩
  · have hn0 : ((na : Int) == 0) = false := by
      have : na ≠ 0 := fun e => by
        rw [e] at HNA
        have := digs_nil (List.eq_nil_of_length_eq_zero HNA.out)
        omega
      simp [this]
    obtain ⟨pre, hpre⟩ : ∃ pre : List UInt8, (if sa = true then [45] else []) = pre := ⟨_, rfl⟩
    have hres : (⟨(Lib.itoa a).toArray⟩ : ByteArray) = txtOf pre (digs a.natAbs) := by
      rw [itoa_digs a h0]
      unfold txtOf
      rw [← hpre, ← HSA.out]
      congr 2
      simp
    rw [hres]
    clear hres h0
    have HPRE := Lib.hid hpre
    have HB := Lib.hid hpre
    clear hpre HB
    cases sa with
    | true =>
      have HST := Lib.hid (show (⟨#[45]⟩ : ByteArray) = txtOf pre ((digs a.natAbs).drop na) from by
        rw [List.drop_of_length_le (by rw [HNA.out]; exact Nat.le_refl _), ← HPRE.out]
        rfl)
      go_enter Tryz.func68, Tryz.ntmps68
      go_wp2_with fail
      go_loopw [3, 4] (fun tv iv wr => ∃ (k : Nat) (s : ByteArray), iv = .int .i64 ((k : Int) - 1) ∧ tv = .string s ∧ s = txtOf pre ((digs a.natAbs).drop k) ∧ k ≤ na ∧ Blk wr w.heap.size 83 #[.bool true, .slice A1 na c1] ∧ Fr (fun _ => False) w wr) (fun _ iv _ => (intOf iv + 1).toNat)
      case atStart => exact ⟨na, _, rfl, rfl, HST.out, Nat.le_refl _, HBA.out, (Fr.refl _ _).alloc _⟩
      case round =>
        obtain ⟨k, s, rfl, rfl, hs, hk, hbl, hf⟩ := hrel
        have HS := Lib.hid hs
        have HF := Lib.hid hf
        have HBL := Lib.hid hbl
        have b1 : wr.cell? ⟨w.heap.size, 1, none⟩ = some (.slice A1 na c1) := hbl.cell 1
        clear hs hf hbl
        by_cases hk0 : k = 0
        · subst hk0
          have h0' : ¬ ((0 : Int) ≤ ((0 : Nat) : Int) - 1) := by decide
          go_wp2_with fail
          go_ret
          exact ⟨by rw [HS.out]; rfl, HF.out⟩
        · have h0' : (0 : Int) ≤ (k : Int) - 1 := by omega
          have hkk : ((k - 1 : Nat) : Int) = (k : Int) - 1 := by omega
          obtain ⟨ga, rfl, hca⟩ := (HRA.out.fr HF.out).at_ HNA.out (k - 1) (by omega)
          obtain ⟨d, hd⟩ : ∃ d, (digs a.natAbs).getD (k - 1) 0 = d := ⟨_, rfl⟩
          have hd10 : d < 10 := by rw [← hd]; exact getD_lt (digs_lt _) _
          rw [hd] at hca
          have HD := Lib.hid hd
          clear hd
          have hix := slice_dig d hd10
          have hdw : IntKind.i64.wrap ((d : Int) + 1) = (d : Int) + 1 := IntWalk.i64_in _ (by omega)
          have hss : s.size ≤ 1001 := by
            rw [HS.out]
            have h : pre.length ≤ 1 := by
              rw [← HPRE.out]
              exact (by decide)
            unfold txtOf
            show (pre ++ ((digs a.natAbs).drop k).reverse.map dbyte).toArray.size ≤ 1001
            rw [List.size_toArray, List.length_append, List.length_map, List.length_reverse, List.length_drop, HNA.out]
            omega
          have hadd : ∀ w, (Op.stringOp .add s ⟨#[dbyte d]⟩).run Tryz.prog w = .ok (.string (s ++ ⟨#[dbyte d]⟩)) w := fun w => run_string_add w s _ (by omega) (show ((1 : Nat) : Int) ≤ 8388608 by decide)
          have HSS := Lib.hid hss
          clear hss
          go_wp2_with fail
          go_big_quiet (fail)
          go_wp2_with fail
          go_roundw
          case rel => exact ⟨k - 1, s ++ ⟨#[dbyte d]⟩, by rw [hkk], rfl, by rw [HS.out, ← HD.out]; exact txt_step pre _ k (by omega) (by rw [HNA.out]; exact hk), by omega, HBL.out.drewN _, HF.out.drewN _⟩
          case measure => simp only [intOf]; omega
    | false =>
      have HST := Lib.hid (show (⟨#[]⟩ : ByteArray) = txtOf pre ((digs a.natAbs).drop na) from by
        rw [List.drop_of_length_le (by rw [HNA.out]; exact Nat.le_refl _), ← HPRE.out]
        rfl)
      go_enter Tryz.func68, Tryz.ntmps68
      go_wp2_with fail
      go_loopw [3, 4] (fun tv iv wr => ∃ (k : Nat) (s : ByteArray), iv = .int .i64 ((k : Int) - 1) ∧ tv = .string s ∧ s = txtOf pre ((digs a.natAbs).drop k) ∧ k ≤ na ∧ Blk wr w.heap.size 83 #[.bool false, .slice A1 na c1] ∧ Fr (fun _ => False) w wr) (fun _ iv _ => (intOf iv + 1).toNat)
      case atStart => exact ⟨na, _, rfl, rfl, HST.out, Nat.le_refl _, HBA.out, (Fr.refl _ _).alloc _⟩
      case round =>
        obtain ⟨k, s, rfl, rfl, hs, hk, hbl, hf⟩ := hrel
        have HS := Lib.hid hs
        have HF := Lib.hid hf
        have HBL := Lib.hid hbl
        have b1 : wr.cell? ⟨w.heap.size, 1, none⟩ = some (.slice A1 na c1) := hbl.cell 1
        clear hs hf hbl
        by_cases hk0 : k = 0
        · subst hk0
          have h0' : ¬ ((0 : Int) ≤ ((0 : Nat) : Int) - 1) := by decide
          go_wp2_with fail
          go_ret
          exact ⟨by rw [HS.out]; rfl, HF.out⟩
        · have h0' : (0 : Int) ≤ (k : Int) - 1 := by omega
          have hkk : ((k - 1 : Nat) : Int) = (k : Int) - 1 := by omega
          obtain ⟨ga, rfl, hca⟩ := (HRA.out.fr HF.out).at_ HNA.out (k - 1) (by omega)
          obtain ⟨d, hd⟩ : ∃ d, (digs a.natAbs).getD (k - 1) 0 = d := ⟨_, rfl⟩
          have hd10 : d < 10 := by rw [← hd]; exact getD_lt (digs_lt _) _
          rw [hd] at hca
          have HD := Lib.hid hd
          clear hd
          have hix := slice_dig d hd10
          have hdw : IntKind.i64.wrap ((d : Int) + 1) = (d : Int) + 1 := IntWalk.i64_in _ (by omega)
          have hss : s.size ≤ 1001 := by
            rw [HS.out]
            have h : pre.length ≤ 1 := by
              rw [← HPRE.out]
              exact (by decide)
            unfold txtOf
            show (pre ++ ((digs a.natAbs).drop k).reverse.map dbyte).toArray.size ≤ 1001
            rw [List.size_toArray, List.length_append, List.length_map, List.length_reverse, List.length_drop, HNA.out]
            omega
          have hadd : ∀ w, (Op.stringOp .add s ⟨#[dbyte d]⟩).run Tryz.prog w = .ok (.string (s ++ ⟨#[dbyte d]⟩)) w := fun w => run_string_add w s _ (by omega) (show ((1 : Nat) : Int) ≤ 8388608 by decide)
          have HSS := Lib.hid hss
          clear hss
          go_wp2_with fail
          go_big_quiet (fail)
          go_wp2_with fail
          go_roundw
          case rel => exact ⟨k - 1, s ++ ⟨#[dbyte d]⟩, by rw [hkk], rfl, by rw [HS.out, ← HD.out]; exact txt_step pre _ k (by omega) (by rw [HNA.out]; exact hk), by omega, HBL.out.drewN _, HF.out.drewN _⟩
          case measure => simp only [intOf]; omega

end Go.Proofs.YtflhmieeidnpgaaGreatDoor
