/- same: two lists of items, walked. -/
import Derived.Test.YtgcmdoinihehcaaWk
import Derived.Test.YtgcmdoinihehcaaAc
import Derived.Test.YtgcmdoinihehcaaPn
import Derived.Deep.Cut
import Derived.Laws.StructEq
import Derived.WalkKit
import Derived.WalkLawsBesides
import Derived.WalkSpells
import Derived.Deep.QuietTactic
import Derived.BigRegion
import Derived.BigQuiet
import Derived.Lib.Hide
import Derived.Outline
import Derived.Deep.AppendLies
import Derived.Deep.RegionLaw
import Derived.Deep.RegionWith
import Derived.Deep.RegionHeld3
import Derived.Deep.LoopGhost
import Derived.Deep.DeepFit
import Derived.Laws.ResultCell
import Derived.Deep.MidRow
import Derived.StillTailTactics
import Derived.OpenShut
namespace Go.Proofs.Ytgcmdoinihehcaa
set_option linter.unusedVariables false
open Go.RowKit Go

theorem st41 : Try.prog.stoodInHeld 41 = false := by kernel_rfl
theorem und41 : Try.prog.underlying 41 = some (.struct (Try.prog.fieldsOf 41)) := by kernel_rfl
theorem eq31 (d : Nat) (c k e : Int) (w : World) : (Op.equalIn (d + 2) 31 (.agg #[.int .i64 c, .int .i64 k, .int .i64 e]) (.agg #[.int .i64 c, .int .i64 k, .int .i64 e])).run Try.prog w = .ok true w := by
  have u3 := Try.underlying3
  have a3 := Try.isAgg3
  have z3 := Try.sizeOf3
  rw [Op.equalIn]
  simp only [Sem.run_bind, run_underlying Try.underlying31, Result.andThen_ok]
  simp only [Std.Legacy.Range.forIn_eq_forIn_range', Std.Legacy.Range.size, Nat.sub_zero, Nat.add_sub_cancel, Nat.div_one, List.range'_succ, List.range'_zero, List.forIn_cons, List.forIn_nil]
  go_simp
theorem eq41 (a b c k e : Int) (w : World) : (Op.equalIn 10000 41 (.agg #[.int .i64 a, .int .i64 b, .int .i64 c, .int .i64 k, .int .i64 e]) (.agg #[.int .i64 a, .int .i64 b, .int .i64 c, .int .i64 k, .int .i64 e])).run Try.prog w = .ok true w := by
  have u3 := Try.underlying3
  have a3 := Try.isAgg3
  have z3 := Try.sizeOf3
  have a30 := Try.isAgg31
  have z30 := Try.sizeOf31
  have q := fun w => eq31 9997 c k e w
  rw [show (10000 : Nat) = 9999 + 1 from rfl, run_equalIn_agg w 9999 41 _ _ und41 st41]
  simp only [Program.fieldsOf, Try.underlying41]
  go_simp
theorem gt41 : Try.prog.eqGuardType Try.prog.depth 41 = false := by kernel_rfl

theorem iCells_q (q : Array Item) : iCells q.toList = qCells q := rfl

/-- Items of the document's, in a row: an item's cells. -/
theorem row73 {w : World} {B g c : Nat} {q : Array Item} (h : w.ownsRow B 73 5 (.slice (some ⟨g, 0, none⟩) q.size c) q.size (qCells q)) {i : Nat} (hi : i < q.size) :
    w.cell? ⟨g, i * 5, none⟩ = some (.int .i64 q[i]!.t) ∧ w.cell? ⟨g, i * 5 + 1, none⟩ = some (.int .i64 q[i]!.s) ∧ w.cell? ⟨g, i * 5 + 2, none⟩ = some (.int .i64 q[i]!.k0) ∧ w.cell? ⟨g, i * 5 + 3, none⟩ = some (.int .i64 q[i]!.k1) ∧ w.cell? ⟨g, i * 5 + 4, none⟩ = some (.int .i64 q[i]!.k2) := by
  have hl : ∀ j, j < 5 → w.cell? ⟨g, i * 5 + j, none⟩ = (itemCells q[i]!)[j]? := fun j hj => by
    rw [World.ownsRow.cellAt h _ (by omega), qCells_get q i j hi hj]
  exact ⟨hl 0 (by omega), hl 1 (by omega), hl 2 (by omega), hl 3 (by omega), hl 4 (by omega)⟩

set_option maxRecDepth 100000 in
set_option maxHeartbeats 8000000 in
theorem same_any (a b : Value) (B1 B2 : Nat) (q : Array Item) (w : World) (ha : QRow w B1 a q) (hb : w.ownsRow B2 73 5 b q.size (qCells q)) (hq : q.size ≤ 1000) :
    Calls Try.prog 22 #[a, b] w fun e w' => e = .returned (.bool true) ∧ Fr (fun _ => False) w w' := by
  obtain ⟨A1, c1, hv1⟩ := ha.shape
  obtain ⟨A2, c2, hv2⟩ := row_shape hb
  subst hv1 hv2
  obtain ⟨n, hn9⟩ : ∃ n, n = q.size := ⟨_, rfl⟩
  have HN := Lib.hid hn9
  have hn8 : n ≤ 1000 := by omega
  have ha1 := ha
  unfold QRow at ha1
  have HA := Lib.hid ha1
  have HB := Lib.hid hb
  rw [← hn9]
  clear hn9 ha ha1 hb
  have hnn : ((n : Int) == (n : Int)) = true := by simp
  go_enter Try.func22, Try.ntmps22
  go_wp2_with fail
  go_loopw [13] (fun iv wr => ∃ (k : Nat), iv = .int .i64 (k : Int) ∧ k ≤ n ∧ Fr (fun _ => False) w wr) (fun iv _ => n - (intOf iv).toNat)
  case atStart => exact ⟨0, rfl, Nat.zero_le _, Fr.refl _ _⟩
  case round =>
    obtain ⟨k, rfl, hk, hfr⟩ := hrel
    by_cases hlt : k < n
    · have hkq : k < q.size := by rw [← HN.out]; exact hlt
      have ra : wr.ownsRow B1 41 5 (.slice A1 q.size c1) q.size (qCells q) := ownsRow_fr HA.out hfr (fun _ _ h => h)
      have rb : wr.ownsRow B2 73 5 (.slice A2 q.size c2) q.size (qCells q) := ownsRow_fr HB.out hfr (fun _ _ h => h)
      obtain ⟨g1, hg1, -, hgl1, hgc1⟩ := row_form ra (by omega)
      obtain ⟨g2, hg2, -, hgl2, hgc2⟩ := row_form rb (by omega)
      subst hg1 hg2
      have ra' : QRow wr B1 (.slice (some ⟨g1, 0, none⟩) q.size c1) q := ra
      obtain ⟨d0, d1, d2, d3, d4⟩ := ra'.cells hkq
      obtain ⟨e0, e1, e2, e3, e4⟩ := row73 rb hkq
      have hlt' : (k : Int) < (n : Int) := by omega
      have hkn : decide (n ≤ k) = false := decide_eq_false (by omega)
      have gt := gt41
      have su := st41
      have uu := und41
      clear ra rb ra' hkq
      generalize q[k]! = x at *
      obtain ⟨xt, xs, x0, x1, x2⟩ := x
      simp only at d0 d1 d2 d3 d4 e0 e1 e2 e3 e4
      have q41 := fun w => eq41 xt xs x0 x1 x2 w
      go_wp2_with fail
      go_big_quiet (fail)
      go_wp2_with fail
      go_roundw
      case rel => exact ⟨k + 1, by go_num, by omega, by first | exact hfr | exact hfr.drewN _⟩
      case measure => simp [intOf]; omega
    · have hkn : k = n := by omega
      subst hkn
      have hge : (k : Int) ≤ (k : Int) := Int.le_refl _
      go_wp2_with fail
      go_ret
      exact ⟨rfl, hfr⟩

end Go.Proofs.Ytgcmdoinihehcaa
