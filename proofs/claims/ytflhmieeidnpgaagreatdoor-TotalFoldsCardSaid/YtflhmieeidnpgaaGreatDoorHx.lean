/- What a var stands for in the document's row: walked. -/
import Derived.Test.YtflhmieeidnpgaaGreatDoorHv
import Derived.Deep.CutBlock
import Derived.Deep.RegionLawGrows
import Derived.Deep.Cut
import Derived.Deep.CutRange
import Derived.WalkKit
import Derived.WalkLawsBesides
import Derived.WalkSpells
import Derived.Deep.QuietTactic
import Derived.BigRegion
import Derived.BigQuiet
import Derived.Lib.Hide
import Derived.Outline
import Derived.Deep.AppendLies
import Derived.Deep.RegionLaw
import Derived.Deep.RegionWith
import Derived.Deep.RegionHeld3
import Derived.Deep.LoopGhost
import Derived.Deep.DeepFit
import Derived.Laws.ResultCell
import Derived.Laws.RangeAny
import Derived.Deep.MidRow
import Derived.StillTailTactics
import Derived.OpenShut
namespace Go.Proofs.YtflhmieeidnpgaaGreatDoor
set_option linter.unusedVariables false
open Go.RowKit Go


/-- What a var stands for. -/
def getB (bs : List BD) (v : ByteArray) : Nat → Option DT
  | 0 => none
  | i + 1 => match getB bs v i with
    | some t => some t
    | none => if ((bs.getD i ⟨⟨#[]⟩, ⟨0, ⟨#[]⟩, ⟨#[]⟩, ⟨#[]⟩⟩⟩).var.toList == v.toList) = true then some (bs.getD i ⟨⟨#[]⟩, ⟨0, ⟨#[]⟩, ⟨#[]⟩, ⟨#[]⟩⟩⟩).t else none
def GetPost (o : Option DT) (w : World) (e : Ending) (w' : World) : Prop :=
  Fr (fun _ => False) w w' ∧ match o with
    | some t => e = .returned (.tuple #[.agg t.cells, .bool true])
    | none => e = .returned (.tuple #[.agg #[.int .i64 0, .string ⟨#[]⟩, .string ⟨#[]⟩, .string ⟨#[]⟩], .bool false])
abbrev bd0 : BD := ⟨⟨#[]⟩, ⟨0, ⟨#[]⟩, ⟨#[]⟩, ⟨#[]⟩⟩⟩
theorem bcells_t : ∀ (bs : List BD) (k : Nat) (h : k < bs.length), (bcells bs)[k * 5 + 1]? = some (.int .i64 (bs.getD k bd0).t.kind) ∧ (bcells bs)[k * 5 + 2]? = some (.string (bs.getD k bd0).t.text) ∧ (bcells bs)[k * 5 + 3]? = some (.string (bs.getD k bd0).t.type) ∧ (bcells bs)[k * 5 + 4]? = some (.string (bs.getD k bd0).t.lang)
  | [], k, h => absurd h (Nat.not_lt_zero _)
  | b :: bs, 0, h => ⟨rfl, rfl, rfl, rfl⟩
  | b :: bs, k + 1, h => by
    have h2 := bcells_t bs k (by simpa using h)
    rw [show (k + 1) * 5 + 1 = (k * 5 + 1) + 1 + 1 + 1 + 1 + 1 by omega, show (k + 1) * 5 + 2 = (k * 5 + 2) + 1 + 1 + 1 + 1 + 1 by omega, show (k + 1) * 5 + 3 = (k * 5 + 3) + 1 + 1 + 1 + 1 + 1 by omega, show (k + 1) * 5 + 4 = (k * 5 + 4) + 1 + 1 + 1 + 1 + 1 by omega]
    exact h2
theorem getB_step (bs : List BD) (v : ByteArray) (i : Nat) (h : getB bs v i = none) : getB bs v (i + 1) = if ((bs.getD i bd0).var.toList == v.toList) = true then some (bs.getD i bd0).t else none := by
  rw [getB, h]
theorem getB_on (bs : List BD) (v : ByteArray) (i : Nat) (t : DT) (h : getB bs v i = some t) : ∀ k, getB bs v (i + k) = some t
  | 0 => h
  | k + 1 => by
    rw [← Nat.add_assoc, getB, getB_on bs v i t h k]
set_option maxRecDepth 100000 in
set_option maxHeartbeats 4000000 in
theorem get_any (B : Nat) (bs : List BD) (r : Value) (v : ByteArray) (w : World) (hl : bs.length ≤ 100) (hr : BRow w B r bs) :
    Calls Tryz.prog 32 #[r, .string v] w (GetPost (getB bs v bs.length) w) := by
  obtain ⟨A, c, hv⟩ := row_shape hr
  subst hv
  have HR := Lib.hid hr
  clear hr
  generalize hll : bs.length = n at *
  have HLL := Lib.hid hll
  clear hll
  have HST := Lib.hid (fun i h => getB_step bs v i h)
  have HON := Lib.hid (fun i t h => getB_on bs v i t h)
  go_enter Tryz.func32, Tryz.ntmps32
  go_wp2_with fail
  have HB := Lib.hid (Blk.new w 41 #[.int .i64 0, .string ⟨#[]⟩, .string ⟨#[]⟩, .string ⟨#[]⟩])
  go_loopw [9] (fun iv wr => ∃ i : Nat, iv = .int .i64 (i : Int) ∧ i ≤ n ∧ Blk wr w.heap.size 41 #[.int .i64 0, .string ⟨#[]⟩, .string ⟨#[]⟩, .string ⟨#[]⟩] ∧ Fr (fun _ => False) w wr ∧ getB bs v i = none) (fun iv _ => n - (intOf iv).toNat)
  case atStart => exact ⟨0, rfl, Nat.zero_le _, HB.out, (Fr.refl _ _).alloc _, rfl⟩
  case round =>
    obtain ⟨i, rfl, hi, hb, hf, hg⟩ := hrel
    have HF := Lib.hid hf
    have HBL := Lib.hid hb
    have hst := HST.out i hg
    have HG := Lib.hid hg
    clear hg
    by_cases hlt : i < n
    · have hlt' : decide (i < n) = true := by simpa using hlt
      have hro := ownsRow_fr HR.out hf (fun _ _ h => h)
      obtain ⟨ga, c', hsv⟩ := row_pos hro (by rw [HLL.out]; omega)
      cases hsv
      have c0 : wr.cell? ⟨ga, i * 5, none⟩ = some (.string (bs.getD i bd0).var) := by
        rw [World.ownsRow.cellAt hro (i * 5) (by omega)]; exact bcells_var bs i (by rw [HLL.out]; exact hlt)
      have ht := bcells_t bs i (by rw [HLL.out]; exact hlt)
      have c1 : wr.cell? ⟨ga, i * 5 + 1, none⟩ = some (.int .i64 (bs.getD i bd0).t.kind) := by
        rw [World.ownsRow.cellAt hro (i * 5 + 1) (by omega)]; exact ht.1
      have c2 : wr.cell? ⟨ga, i * 5 + 2, none⟩ = some (.string (bs.getD i bd0).t.text) := by
        rw [World.ownsRow.cellAt hro (i * 5 + 2) (by omega)]; exact ht.2.1
      have c3 : wr.cell? ⟨ga, i * 5 + 3, none⟩ = some (.string (bs.getD i bd0).t.type) := by
        rw [World.ownsRow.cellAt hro (i * 5 + 3) (by omega)]; exact ht.2.2.1
      have c4 : wr.cell? ⟨ga, i * 5 + 4, none⟩ = some (.string (bs.getD i bd0).t.lang) := by
        rw [World.ownsRow.cellAt hro (i * 5 + 4) (by omega)]; exact ht.2.2.2
      clear ht hro hf hb
      obtain ⟨⟨var, k, tt, ty, tl⟩, hbd⟩ : ∃ b, bs.getD i bd0 = b := ⟨_, rfl⟩
      rw [hbd] at c0 c1 c2 c3 c4 hst
      clear hbd
      dsimp only at c0 c1 c2 c3 c4 hst
      cases he : (var.toList == v.toList) with
      | true =>
        rw [he, if_pos rfl] at hst
        have HS := Lib.hid hst
        clear hst
        have b0 : wr.cell? ⟨w.heap.size, 0, none⟩ = some (.int .i64 0) := HBL.out.cell 0
        have b1 : wr.cell? ⟨w.heap.size, 1, none⟩ = some (.string ⟨#[]⟩) := HBL.out.cell 1
        have b2 : wr.cell? ⟨w.heap.size, 2, none⟩ = some (.string ⟨#[]⟩) := HBL.out.cell 2
        have b3 : wr.cell? ⟨w.heap.size, 3, none⟩ = some (.string ⟨#[]⟩) := HBL.out.cell 3
        have z0 := HBL.out.frozen 0
        have z1 := HBL.out.frozen 1
        have z2 := HBL.out.frozen 2
        have z3 := HBL.out.frozen 3
        have hgo := HON.out (i + 1) _ HS.out (bs.length - (i + 1))
        rw [show i + 1 + (bs.length - (i + 1)) = bs.length by omega] at hgo
        have HGO := Lib.hid hgo
        clear hgo
        go_wp2_with fail
        rw [HGO.out]
        exact bodyPost_ret (v := .tuple #[.agg #[.int .i64 k, .string tt, .string ty, .string tl], .bool true]) (results_c2 rfl _ _ w.heap.size 41 _ (0, 0) _ rfl (show Blk _ w.heap.size 41 #[.int .i64 k, .string tt, .string ty, .string tl] from ((((HBL.out.set_ 0 (.int .i64 k)).set_ 1 (.string tt)).set_ 2 (.string ty)).set_ 3 (.string tl))) Tryz.underlying41 rfl (by kernel_rfl) _ rfl) rfl ⟨((((HF.out.setCell ⟨w.heap.size, 0, none⟩ (fun h => absurd h (Nat.lt_irrefl _)) (.int .i64 k)).setCell ⟨w.heap.size, 1, none⟩ (fun h => absurd h (Nat.lt_irrefl _)) (.string tt)).setCell ⟨w.heap.size, 2, none⟩ (fun h => absurd h (Nat.lt_irrefl _)) (.string ty)).setCell ⟨w.heap.size, 3, none⟩ (fun h => absurd h (Nat.lt_irrefl _)) (.string tl)), rfl⟩
      | false =>
        rw [he, if_neg (by decide)] at hst
        have HS := Lib.hid hst
        clear hst
        go_wp2_with fail
        go_roundw
        case rel => exact ⟨i + 1, by go_num, hlt, HBL.out, HF.out, HS.out⟩
        case measure => simp [intOf]; omega
    · have hlt' : decide (i < n) = false := by simpa using hlt
      have e : i = n := by omega
      have HE := Lib.hid e
      clear e hst
      have b0 : wr.cell? ⟨w.heap.size, 0, none⟩ = some (.int .i64 0) := HBL.out.cell 0
      have b1 : wr.cell? ⟨w.heap.size, 1, none⟩ = some (.string ⟨#[]⟩) := HBL.out.cell 1
      have b2 : wr.cell? ⟨w.heap.size, 2, none⟩ = some (.string ⟨#[]⟩) := HBL.out.cell 2
      have b3 : wr.cell? ⟨w.heap.size, 3, none⟩ = some (.string ⟨#[]⟩) := HBL.out.cell 3
      have z0 := HBL.out.frozen 0
      have z1 := HBL.out.frozen 1
      have z2 := HBL.out.frozen 2
      have z3 := HBL.out.frozen 3
      go_wp2_with fail
      have hgo := HG.out
      rw [HE.out] at hgo
      rw [hgo]
      exact bodyPost_ret (v := .tuple #[.agg #[.int .i64 0, .string ⟨#[]⟩, .string ⟨#[]⟩, .string ⟨#[]⟩], .bool false]) (results_c2 rfl _ _ w.heap.size 41 _ (0, 0) _ rfl (show Blk _ w.heap.size 41 #[.int .i64 0, .string ⟨#[]⟩, .string ⟨#[]⟩, .string ⟨#[]⟩] from ((((HBL.out.set_ 0 (.int .i64 0)).set_ 1 (.string ⟨#[]⟩)).set_ 2 (.string ⟨#[]⟩)).set_ 3 (.string ⟨#[]⟩))) Tryz.underlying41 rfl (by kernel_rfl) _ rfl) rfl ⟨((((HF.out.setCell ⟨w.heap.size, 0, none⟩ (fun h => absurd h (Nat.lt_irrefl _)) (.int .i64 0)).setCell ⟨w.heap.size, 1, none⟩ (fun h => absurd h (Nat.lt_irrefl _)) (.string ⟨#[]⟩)).setCell ⟨w.heap.size, 2, none⟩ (fun h => absurd h (Nat.lt_irrefl _)) (.string ⟨#[]⟩)).setCell ⟨w.heap.size, 3, none⟩ (fun h => absurd h (Nat.lt_irrefl _)) (.string ⟨#[]⟩)), rfl⟩

end Go.Proofs.YtflhmieeidnpgaaGreatDoor
