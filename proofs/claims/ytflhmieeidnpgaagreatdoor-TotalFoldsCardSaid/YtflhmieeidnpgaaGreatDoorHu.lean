/- Terms in order: their comparison, the texts of a term, and a term as the document's: walked. -/
import Derived.Test.YtflhmieeidnpgaaGreatDoorJq
import Derived.Deep.CutBlock
import Derived.Deep.RegionLawGrows
import Derived.Deep.Cut
import Derived.Deep.CutRange
import Derived.WalkKit
import Derived.WalkLawsBesides
import Derived.WalkSpells
import Derived.Deep.QuietTactic
import Derived.BigRegion
import Derived.BigQuiet
import Derived.Lib.Hide
import Derived.Outline
import Derived.Deep.AppendLies
import Derived.Deep.RegionLaw
import Derived.Deep.RegionWith
import Derived.Deep.RegionHeld3
import Derived.Deep.LoopGhost
import Derived.Deep.DeepFit
import Derived.Laws.ResultCell
import Derived.Laws.RangeAny
import Derived.Deep.MidRow
import Derived.StillTailTactics
import Derived.OpenShut
namespace Go.Proofs.YtflhmieeidnpgaaGreatDoor
set_option linter.unusedVariables false
open Go.RowKit Go


attribute [local go_sem] as_bb as_ib as_lb as_ii as_li as_ll mt_b mt_i mt_l

/-- -1, 0, 1. -/
def cmpI (a b : Int) : Int := if a < b then -1 else if b < a then 1 else 0
def cmpB (a b : ByteArray) : Int := if Op.bytesLess a.toList b.toList = true then -1 else if (a.toList == b.toList) = true then 0 else 1
/-- A term's texts. -/
def Tm.t0 : Tm → ByteArray
  | .bla a => a
  | .iri a => a
  | .lit a _ _ => a
def Tm.t1 : Tm → ByteArray
  | .lit _ b _ => b
  | _ => ⟨#[]⟩
def Tm.t2 : Tm → ByteArray
  | .lit _ _ c => c
  | _ => ⟨#[]⟩
/-- A term, as the document's. -/
def Tm.ref (t : Tm) : DT := ⟨t.kind, t.t0, t.t1, t.t2⟩

set_option maxHeartbeats 1000000 in
theorem notnanI_any (n : Int) (w : World) : Calls Tryz.prog 89 #[.int .i64 n] w fun e w' => e = .returned (.bool false) ∧ w = w' := by
  go_enter Tryz.func89, Tryz.ntmps89
  go_wp2_with fail
  go_ret
  exact ⟨by simp, rfl⟩
set_option maxHeartbeats 1000000 in
theorem cmpI_any (a b : Int) (w : World) : Calls Tryz.prog 66 #[.int .i64 a, .int .i64 b] w fun e w' => e = .returned (.int .i64 (cmpI a b)) ∧ w = w' := by
  have HN := Lib.hid (fun s w => notnanI_any s w)
  by_cases h1 : a < b
  · have e : cmpI a b = -1 := by simp [cmpI, h1]
    have h1' : decide (a < b) = true := by simp [h1]
    rw [e]
    clear e
    go_enter Tryz.func66, Tryz.ntmps66
    go_wp2_with fail
    refine (HN.out _ _).mono ?_
    rintro e w1 ⟨rfl, rfl⟩
    go_wp2_with fail
    refine (HN.out _ _).mono ?_
    rintro e w2 ⟨rfl, rfl⟩
    go_wp2_with fail
    go_ret
    exact ⟨rfl, rfl⟩
  · have h1' : decide (a < b) = false := by simp [h1]
    by_cases h2 : b < a
    · have e : cmpI a b = 1 := by simp [cmpI, h1, h2]
      have h2' : decide (b < a) = true := by simp [h2]
      rw [e]
      clear e
      go_enter Tryz.func66, Tryz.ntmps66
      go_wp2_with fail
      refine (HN.out _ _).mono ?_
      rintro e w1 ⟨rfl, rfl⟩
      go_wp2_with fail
      refine (HN.out _ _).mono ?_
      rintro e w2 ⟨rfl, rfl⟩
      go_wp2_with fail
      go_ret
      exact ⟨rfl, rfl⟩
    · have e : cmpI a b = 0 := by simp [cmpI, h1, h2]
      have h2' : decide (b < a) = false := by simp [h2]
      rw [e]
      clear e
      go_enter Tryz.func66, Tryz.ntmps66
      go_wp2_with fail
      refine (HN.out _ _).mono ?_
      rintro e w1 ⟨rfl, rfl⟩
      go_wp2_with fail
      refine (HN.out _ _).mono ?_
      rintro e w2 ⟨rfl, rfl⟩
      go_wp2_with fail
      go_ret
      exact ⟨rfl, rfl⟩
set_option maxHeartbeats 1000000 in
theorem cmpB_any (a b : ByteArray) (w : World) : Calls Tryz.prog 67 #[.string a, .string b] w fun e w' => e = .returned (.int .i64 (cmpB a b)) ∧ w = w' := by
  have HN := Lib.hid (fun s w => notnan_any s w)
  cases h1 : Op.bytesLess a.toList b.toList with
  | true =>
    have e : cmpB a b = -1 := by simp [cmpB, h1]
    rw [e]
    clear e
    go_enter Tryz.func67, Tryz.ntmps67
    go_wp2_with fail
    refine (HN.out _ _).mono ?_
    rintro e w1 ⟨rfl, rfl⟩
    go_wp2_with fail
    refine (HN.out _ _).mono ?_
    rintro e w2 ⟨rfl, rfl⟩
    go_wp2_with fail
    go_ret
    exact ⟨rfl, rfl⟩
  | false =>
    cases h2 : (a.toList == b.toList) with
    | true =>
      have e : cmpB a b = 0 := by (unfold cmpB; rw [h1, h2]; rfl)
      rw [e]
      clear e
      go_enter Tryz.func67, Tryz.ntmps67
      go_wp2_with fail
      refine (HN.out _ _).mono ?_
      rintro e w1 ⟨rfl, rfl⟩
      go_wp2_with fail
      refine (HN.out _ _).mono ?_
      rintro e w2 ⟨rfl, rfl⟩
      go_wp2_with fail
      go_ret
      exact ⟨rfl, rfl⟩
    | false =>
      have e : cmpB a b = 1 := by (unfold cmpB; rw [h1, h2]; rfl)
      rw [e]
      clear e
      go_enter Tryz.func67, Tryz.ntmps67
      go_wp2_with fail
      refine (HN.out _ _).mono ?_
      rintro e w1 ⟨rfl, rfl⟩
      go_wp2_with fail
      refine (HN.out _ _).mono ?_
      rintro e w2 ⟨rfl, rfl⟩
      go_wp2_with fail
      go_ret
      exact ⟨rfl, rfl⟩
set_option maxRecDepth 100000 in
set_option maxHeartbeats 1000000 in
theorem texts_any (t : Tm) (w : World) : Calls Tryz.prog 64 #[t.val] w fun e w' => e = .returned (.agg #[.string t.t0, .string t.t1, .string t.t2]) ∧ Fr (fun _ => False) w w' := by
  cases t with
  | bla a =>
    unfold Tm.val Tm.t0 Tm.t1 Tm.t2
    go_enter Tryz.func64, Tryz.ntmps64
    go_wp2_with fail
    exact bodyPost_ret (v := .agg #[.string a, .string ⟨#[]⟩, .string ⟨#[]⟩]) (results_cell_row rfl _ _ w.heap.size 130 _ (0, 0) _ rfl ((Blk.new w 130 #[.string a, .string ⟨#[]⟩, .string ⟨#[]⟩]).alloc (.cells #[.string a] 93)) Tryz.underlying130 rfl (by kernel_rfl)) rfl ⟨rfl, ((Fr.refl _ _).alloc _).alloc _⟩
  | iri a =>
    unfold Tm.val Tm.t0 Tm.t1 Tm.t2
    go_enter Tryz.func64, Tryz.ntmps64
    go_wp2_with fail
    exact bodyPost_ret (v := .agg #[.string a, .string ⟨#[]⟩, .string ⟨#[]⟩]) (results_cell_row rfl _ _ w.heap.size 130 _ (0, 0) _ rfl ((Blk.new w 130 #[.string a, .string ⟨#[]⟩, .string ⟨#[]⟩]).alloc (.cells #[.string a] 95)) Tryz.underlying130 rfl (by kernel_rfl)) rfl ⟨rfl, ((Fr.refl _ _).alloc _).alloc _⟩
  | lit a b c =>
    unfold Tm.val Tm.t0 Tm.t1 Tm.t2
    go_enter Tryz.func64, Tryz.ntmps64
    go_wp2_with fail
    exact bodyPost_ret (v := .agg #[.string a, .string b, .string c]) (results_cell_row rfl _ _ w.heap.size 130 _ (0, 0) _ rfl ((Blk.new w 130 #[.string a, .string b, .string c]).alloc (.cells #[.string a, .string b, .string c] 59)) Tryz.underlying130 rfl (by kernel_rfl)) rfl ⟨rfl, ((Fr.refl _ _).alloc _).alloc _⟩
set_option maxRecDepth 100000 in
set_option maxHeartbeats 1000000 in
theorem refOf_any (t : Tm) (w : World) : Calls Tryz.prog 10 #[t.val] w fun e w' => e = .returned (.agg t.ref.cells) ∧ Fr (fun _ => False) w w' := by
  cases t with
  | bla a =>
    unfold DT.cells Tm.val Tm.ref Tm.kind Tm.t0 Tm.t1 Tm.t2
    go_enter Tryz.func10, Tryz.ntmps10
    go_wp2_with fail
    exact bodyPost_ret (v := .agg #[.int .i64 0, .string a, .string ⟨#[]⟩, .string ⟨#[]⟩]) (results_cell_row rfl _ _ w.heap.size 41 _ (0, 0) _ rfl ((Blk.new w 41 #[.int .i64 0, .string a, .string ⟨#[]⟩, .string ⟨#[]⟩]).alloc (.cells #[.string a] 93)) Tryz.underlying41 rfl (by kernel_rfl)) rfl ⟨rfl, ((Fr.refl _ _).alloc _).alloc _⟩
  | iri a =>
    unfold DT.cells Tm.val Tm.ref Tm.kind Tm.t0 Tm.t1 Tm.t2
    go_enter Tryz.func10, Tryz.ntmps10
    go_wp2_with fail
    exact bodyPost_ret (v := .agg #[.int .i64 1, .string a, .string ⟨#[]⟩, .string ⟨#[]⟩]) (results_cell_row rfl _ _ w.heap.size 41 _ (0, 0) _ rfl ((Blk.new w 41 #[.int .i64 1, .string a, .string ⟨#[]⟩, .string ⟨#[]⟩]).alloc (.cells #[.string a] 95)) Tryz.underlying41 rfl (by kernel_rfl)) rfl ⟨rfl, ((Fr.refl _ _).alloc _).alloc _⟩
  | lit a b c =>
    unfold DT.cells Tm.val Tm.ref Tm.kind Tm.t0 Tm.t1 Tm.t2
    go_enter Tryz.func10, Tryz.ntmps10
    go_wp2_with fail
    exact bodyPost_ret (v := .agg #[.int .i64 2, .string a, .string b, .string c]) (results_cell_row rfl _ _ w.heap.size 41 _ (0, 0) _ rfl ((Blk.new w 41 #[.int .i64 2, .string a, .string b, .string c]).alloc (.cells #[.string a, .string b, .string c] 59)) Tryz.underlying41 rfl (by kernel_rfl)) rfl ⟨rfl, ((Fr.refl _ _).alloc _).alloc _⟩
/-- The first that isn't 0. -/
def orL : List Int → Int
  | [] => 0
  | x :: r => if x = 0 then orL r else x
theorem orL_at (l : List Int) (i : Nat) (h : i < l.length) : orL (l.drop i) = if l.getD i 0 = 0 then orL (l.drop (i + 1)) else l.getD i 0 := by
  rw [List.drop_eq_getElem_cons h, List.getD_eq_getElem?_getD, List.getElem?_eq_getElem h]
  rfl
set_option maxRecDepth 100000 in
set_option maxHeartbeats 4000000 in
theorem or_any (g c : Nat) (l : List Int) (w : World) (hl : l.length ≤ 100) (hc : ∀ j, j < l.length → w.cell? ⟨g, j, none⟩ = some (.int .i64 (l.getD j 0))) :
    Calls Tryz.prog 65 #[.slice (some ⟨g, 0, none⟩) l.length c] w fun e w' => e = .returned (.int .i64 (orL l)) ∧ w = w' := by
  have HC := Lib.hid hc
  have HAT := Lib.hid (fun i h => orL_at l i h)
  have hen : orL (l.drop l.length) = 0 := by rw [List.drop_length]; rfl
  have HEN := Lib.hid hen
  clear hc hen
  generalize hll : l.length = n at *
  clear hll
  obtain ⟨q, hq⟩ : ∃ q, orL l = q := ⟨_, rfl⟩
  have HQ := Lib.hid hq
  rw [hq]
  clear hq
  go_enter Tryz.func65, Tryz.ntmps65
  go_wp2_with fail
  go_loopw [8] (fun iv wr => ∃ i : Nat, iv = .int .i64 (i : Int) ∧ i ≤ n ∧ w = wr ∧ orL (l.drop i) = q) (fun iv _ => n - (intOf iv).toNat)
  case atStart => exact ⟨0, rfl, Nat.zero_le _, rfl, HQ.out⟩
  case round =>
    obtain ⟨i, rfl, hi, rfl, hd⟩ := hrel
    have HD := Lib.hid hd
    clear hd
    by_cases hlt : i < n
    · have hlt' : decide (i < n) = true := by simpa using hlt
      have ck := HC.out i hlt
      have ha := HAT.out i hlt
      rw [HD.out] at ha
      obtain ⟨x, hx⟩ : ∃ x, l.getD i 0 = x := ⟨_, rfl⟩
      rw [hx] at ck ha
      clear hx
      by_cases h0 : x = 0
      · have h0' : (x != 0) = false := by simp [h0]
        rw [if_pos h0] at ha
        have HA := Lib.hid ha
        clear ha h0
        go_wp2_with fail
        go_roundw
        case rel => exact ⟨i + 1, by go_num, hlt, by simp, HA.out.symm⟩
        case measure => simp [intOf]; omega
      · have h0' : (x != 0) = true := by simp [h0]
        rw [if_neg h0] at ha
        subst ha
        clear h0
        go_wp2_with fail
        go_ret
        exact ⟨rfl, rfl⟩
    · have hlt' : decide (i < n) = false := by simpa using hlt
      have e : i = n := by omega
      subst e
      have h := HD.out
      rw [HEN.out] at h
      subst h
      go_wp2_with fail
      go_ret
      exact ⟨rfl, rfl⟩
/-- The order of terms. -/
def Tm.ord (a b : Tm) : Int := orL [cmpI a.kind b.kind, cmpB a.t0 b.t0, cmpB a.t1 b.t1, cmpB a.t2 b.t2]
set_option maxRecDepth 100000 in
set_option maxHeartbeats 4000000 in
theorem order_any (a b : Tm) (w : World) : Calls Tryz.prog 28 #[a.val, b.val] w fun e w' => e = .returned (.int .i64 (a.ord b)) ∧ Fr (fun _ => False) w w' := by
  have HA := Lib.hid (fun w => texts_any a w)
  have HB := Lib.hid (fun w => texts_any b w)
  have KA := Lib.hid (fun w => kind_any a w)
  have KB := Lib.hid (fun w => kind_any b w)
  have CI := Lib.hid (fun x y w => cmpI_any x y w)
  have CB := Lib.hid (fun x y w => cmpB_any x y w)
  obtain ⟨x0, h0⟩ : ∃ x, cmpI a.kind b.kind = x := ⟨_, rfl⟩
  obtain ⟨x1, h1⟩ : ∃ x, cmpB a.t0 b.t0 = x := ⟨_, rfl⟩
  obtain ⟨x2, h2⟩ : ∃ x, cmpB a.t1 b.t1 = x := ⟨_, rfl⟩
  obtain ⟨x3, h3⟩ : ∃ x, cmpB a.t2 b.t2 = x := ⟨_, rfl⟩
  obtain ⟨q, hq⟩ : ∃ q, a.ord b = q := ⟨_, rfl⟩
  have HQ := Lib.hid (show orL [x0, x1, x2, x3] = q by rw [← hq, ← h0, ← h1, ← h2, ← h3]; rfl)
  rw [hq]
  have H0 := Lib.hid h0
  have H1 := Lib.hid h1
  have H2 := Lib.hid h2
  have H3 := Lib.hid h3
  clear h0 h1 h2 h3 hq
  generalize a.val = av at *
  generalize b.val = bv at *
  generalize a.kind = ak at *
  generalize b.kind = bk at *
  generalize a.t0 = a0 at *
  generalize b.t0 = b0 at *
  generalize a.t1 = a1 at *
  generalize b.t1 = b1 at *
  generalize a.t2 = a2 at *
  generalize b.t2 = b2 at *
  go_enter Tryz.func28, Tryz.ntmps28
  go_wp2_with fail
  refine (HA.out _).mono ?_
  rintro e w1 ⟨rfl, hf1⟩
  have F1 := Lib.hid hf1
  clear hf1
  go_wp2_with fail
  refine (HB.out _).mono ?_
  rintro e w2 ⟨rfl, hf2⟩
  have F2 := Lib.hid (F1.out.trans' hf2)
  clear hf2
  go_wp2_with fail
  have hb1 : Blk _ w2.heap.size 130 #[.string a0, .string a1, .string a2] := (Blk.new w2 130 #[.string a0, .string a1, .string a2]).alloc (.cells #[.string b0, .string b1, .string b2] 130)
  have hb2 := Blk.new (w2.alloc (.cells #[.string a0, .string a1, .string a2] 130)) 130 #[.string b0, .string b1, .string b2]
  rw [show (w2.alloc (.cells #[.string a0, .string a1, .string a2] 130)).heap.size = w2.heap.size + 1 by simp] at hb2
  have F3 := Lib.hid ((F2.out.alloc (.cells #[.string a0, .string a1, .string a2] 130)).alloc (.cells #[.string b0, .string b1, .string b2] 130))
  generalize (w2.alloc (.cells #[.string a0, .string a1, .string a2] 130)).alloc (.cells #[.string b0, .string b1, .string b2] 130) = w3 at *
  have ca0 : w3.cell? ⟨w2.heap.size, 0, none⟩ = some (.string a0) := hb1.cell 0
  have ca1 : w3.cell? ⟨w2.heap.size, 1, none⟩ = some (.string a1) := hb1.cell 1
  have ca2 : w3.cell? ⟨w2.heap.size, 2, none⟩ = some (.string a2) := hb1.cell 2
  have cb0 : w3.cell? ⟨w2.heap.size + 1, 0, none⟩ = some (.string b0) := hb2.cell 0
  have cb1 : w3.cell? ⟨w2.heap.size + 1, 1, none⟩ = some (.string b1) := hb2.cell 1
  have cb2 : w3.cell? ⟨w2.heap.size + 1, 2, none⟩ = some (.string b2) := hb2.cell 2
  clear hb1 hb2
  go_still_tail 20, (by kernel_rfl)
  still_call ((KA.out _).mono fun _ _ h => ⟨h.1, h.2.symm⟩)
  repeat still_step
  still_call ((KB.out _).mono fun _ _ h => ⟨h.1, h.2.symm⟩)
  repeat still_step
  still_call ((CI.out _ _ _).mono fun _ _ h => ⟨h.1, h.2.symm⟩)
  repeat still_step
  still_call ((CB.out _ _ _).mono fun _ _ h => ⟨h.1, h.2.symm⟩)
  repeat still_step
  still_call ((CB.out _ _ _).mono fun _ _ h => ⟨h.1, h.2.symm⟩)
  repeat still_step
  still_call ((CB.out _ _ _).mono fun _ _ h => ⟨h.1, h.2.symm⟩)
  repeat still_step
  refine wpStill_nil ?_
  change wpList _ _ _ _ _ w3.drew
  rw [H0.out, H1.out, H2.out, H3.out]
  have F4 := Lib.hid (F3.out.drew)
  generalize w3.drew = w4 at *
  clear ca0 ca1 ca2 cb0 cb1 cb2
  have hnb := Blk.new w4 3 #[.int .i64 x0, .int .i64 x1, .int .i64 x2, .int .i64 x3]
  go_wp2_with fail
  have hor := or_any w4.heap.size 4 [x0, x1, x2, x3] (w4.alloc (.cells #[.int .i64 x0, .int .i64 x1, .int .i64 x2, .int .i64 x3] 3)) (show (4 : Nat) ≤ 100 by decide) (fun j hj => by
    match j, hj with
    | 0, _ => exact hnb.cell 0
    | 1, _ => exact hnb.cell 1
    | 2, _ => exact hnb.cell 2
    | 3, _ => exact hnb.cell 3)
  rw [HQ.out] at hor
  refine (show Calls Tryz.prog 65 #[.slice (some ⟨w4.heap.size, 0, none⟩) 4 4] _ _ from hor).mono ?_
  rintro e w5 ⟨rfl, rfl⟩
  go_wp2_with fail
  go_ret
  exact ⟨rfl, F4.out.alloc _⟩

end Go.Proofs.YtflhmieeidnpgaaGreatDoor
