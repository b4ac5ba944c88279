/- The law on groups in groups: walked. -/
import Derived.Test.YtebddgdkndmpjaaGreatDoorBy
import Derived.Deep.CutBlock
import Derived.Deep.RegionLawGrows
import Derived.Deep.Cut
import Derived.Deep.CutRange
import Derived.WalkKit
import Derived.WalkLawsBesides
import Derived.WalkSpells
import Derived.Deep.QuietTactic
import Derived.BigRegion
import Derived.BigQuiet
import Derived.Lib.Hide
import Derived.Outline
import Derived.Deep.AppendLies
import Derived.Deep.RegionLaw
import Derived.Deep.RegionWith
import Derived.Deep.RegionHeld3
import Derived.Deep.LoopGhost
import Derived.Deep.DeepFit
import Derived.Laws.ResultCell
import Derived.Laws.RangeAny
import Derived.Deep.MidRow
import Derived.StillTailTactics
import Derived.OpenShut
namespace Go.Proofs.YtebddgdkndmpjaaGreatDoor
set_option linter.unusedVariables false
open Go.RowKit Go

set_option maxRecDepth 100000 in
set_option maxHeartbeats 4000000 in
/-- The fixed fact. -/
theorem awake9_any (w : World) (hg : Sg w) : Calls Tryz.prog 9 #[] w (IsB true w) := by
  have HP := Lib.hid (parse_ok _ (plaw_pqs glaw_flat tRS ⟨#[117, 58, 111]⟩ false (selV [120])) awkT _ w (ascii_of (by decide)) (by decide) (by decide) awk_e.2.2.2 (fun b c A w1 _ hf1 hs1 => awk_query b c A w1 (hg.frF hf1) hs1))
  unfold awkT at HP
  clear hg
  go_enter Tryz.func9, Tryz.ntmps9
  go_wp2_with fail
  refine HP.out.mono ?_
  rintro e w1 ⟨cs, rfl, ⟨g, v, rfl, hb1, ⟨A, c, rfl⟩⟩, hf1⟩
  have HF := Lib.hid hf1
  unfold tRS at *
  clear hb1 hf1
  go_wp2_with fail
  go_ret
  exact ⟨rfl, HF.out.alloc _⟩

/-- What is read of a group in a group. -/
theorem nest_read {w w' : World} {B d : Nat} {v : Value} (h : GroupAt w B (d + 1) v) (hf : Fr (fun _ => False) w w') :
    ∃ g1 c1 g2 c2 A3 n3 c3, v = .slice (some ⟨g1, 0, none⟩) 1 c1 ∧ 1 ≤ c1 ∧ w'.cell? ⟨g1, 0, none⟩ = some (.int .i64 4) ∧ w'.cell? ⟨g1, 16, none⟩ = some (.slice (some ⟨g2, 0, none⟩) 1 c2) ∧ 1 ≤ c2 ∧ w'.cell? ⟨g2, 0, none⟩ = some (.slice A3 n3 c3) ∧ GroupAt w B d (.slice A3 n3 c3) := by
  obtain ⟨gv, v', h1, h2, h3⟩ := h
  obtain ⟨A1, c1, rfl⟩ := row_shape h1
  obtain ⟨A2, c2, rfl⟩ := row_shape h2
  obtain ⟨A3, n3, c3, rfl⟩ := h3.slice
  obtain ⟨g1, rfl, _, _, _⟩ := row_form h1 (by decide)
  obtain ⟨g2, rfl, _, _, _⟩ := row_form h2 (by decide)
  have k1 := ownsRow_fr h1 hf (fun _ _ h => h)
  have k2 := ownsRow_fr h2 hf (fun _ _ h => h)
  exact ⟨g1, c1, g2, c2, A3, n3, c3, rfl, row_le k1, World.ownsRow.cellAt k1 0 (by decide), World.ownsRow.cellAt k1 16 (by decide), row_le k2, World.ownsRow.cellAt k2 0 (by decide), h3⟩

set_option maxRecDepth 100000 in
set_option maxHeartbeats 40000000 in
/-- The law. -/
theorem nestsLaw_any (x : Int) (w : World) (hx0 : 0 ≤ x) (hx : x ≤ 255) (hg : Sg w) : Calls Tryz.prog 3 #[.int .u8 x] w (IsB true w) := by
  have HA := Lib.hid (awake9_any w hg)
  have hxx : 0 ≤ x % 60 ∧ x % 60 ≤ 59 := by omega
  clear hg
  go_enter Tryz.func3, Tryz.ntmps3
  go_wp2_with fail
  refine HA.out.mono ?_
  rintro e w1 ⟨rfl, hf1⟩
  have HF1 := Lib.hid hf1
  clear hf1
  go_wp2_with fail
  generalize x % 60 = y at *
  obtain ⟨m, rfl⟩ := Int.eq_ofNat_of_zero_le hxx.1
  have hm : m < 60 := by omega
  clear hxx hx0 hx
  obtain ⟨M, hM⟩ : ∃ M, M = m + 1 := ⟨_, rfl⟩
  rw [show (1 + (m : Int)) = (M : Int) by omega]
  have HM := Lib.hid hM
  have hM1 : 1 ≤ M := by omega
  have hM60 : M ≤ 60 := by omega
  clear hM
  go_loopw [4, 19] (fun s iv wr => ∃ k : Nat, s = .string (nestT k 0) ∧ iv = .int .i64 (k : Int) ∧ k ≤ M ∧ w1 = wr) (fun _ iv _ => M - (intOf iv).toNat)
  case atStart => exact ⟨0, rfl, rfl, Nat.zero_le _, rfl⟩
  case round =>
    obtain ⟨k, rfl, rfl, hk, rfl⟩ := hrel
    have hsz : (nestT k 0).size ≤ 200 := by rw [nest_size]; omega
    have hsz2 : ¬ 9223372036854775807 < (nestT k 0).size + 1 := by omega
    by_cases hlt : k < M
    · have hlt' : (k : Int) < (M : Int) := by omega
      have HO := Lib.hid (nest_open k)
      go_wp2_with fail
      rw [HO.out]
      go_roundw
      case rel => exact ⟨k + 1, rfl, by go_num, by omega, trivial⟩
      case measure => simp only [intOf]; omega
    · have hlt' : ¬ (k : Int) < (M : Int) := by omega
      obtain rfl : k = M := by omega
      go_wp2_with fail
      go_loopw [4, 25] (fun s iv wr => ∃ j : Nat, s = .string (nestT k j) ∧ iv = .int .i64 (j : Int) ∧ j ≤ k ∧ w1 = wr) (fun _ iv _ => k - (intOf iv).toNat)
      case atStart => exact ⟨0, rfl, rfl, Nat.zero_le _, rfl⟩
      case round =>
        obtain ⟨j, rfl, rfl, hj, rfl⟩ := hrel
        have hsz : (nestT k j).size ≤ 200 := by rw [nest_size]; omega
        have hsz2 : ¬ 9223372036854775807 < (nestT k j).size + 1 := by omega
        by_cases hlt : j < k
        · have hlt' : (j : Int) < (k : Int) := by omega
          have HO := Lib.hid (nest_shut k j)
          go_wp2_with fail
          rw [HO.out]
          go_roundw
          case rel => exact ⟨j + 1, rfl, by go_num, by omega, trivial⟩
          case measure => simp only [intOf]; omega
        · have hlt' : ¬ (j : Int) < (k : Int) := by omega
          obtain rfl : j = k := by omega
          obtain rfl := HM.out
          go_wp2_with fail
          clear hsz hsz2 hM1 hM60 hlt hlt' hj hk
          by_cases hm40 : m < 40
          · have HP := Lib.hid (nest_ok m hm40 w1)
            have hmi : ¬ (m : Int) + 1 > 40 := by omega
            generalize nestT (m + 1) (m + 1) = nt at *
            refine HP.out.mono ?_
            rintro e w2 ⟨cs, rfl, ⟨g, v, rfl, hb2, hg2⟩, hf2⟩
            obtain ⟨A3, n3, c3, rfl⟩ := hg2.slice
            have HF2 := Lib.hid (HF1.out.trans' hf2)
            have HG2 := Lib.hid hg2
            unfold tRS at *
            have hfa : Fr (fun _ => False) w2 ((w2.alloc (.cells #[.string ⟨#[82, 83, 84, 82, 69, 65, 77]⟩, .string ⟨#[117, 58, 111]⟩, .bool false, .slice (some ⟨g, 0, none⟩) 1 1, .slice none 0 0, .slice A3 n3 c3, .slice none 0 0] 30)).alloc (.cells #[.slice A3 n3 c3] 27)) := ((Fr.refl _ _).alloc _).alloc _
            have hgb := Blk.new (w2.alloc (.cells #[.string ⟨#[82, 83, 84, 82, 69, 65, 77]⟩, .string ⟨#[117, 58, 111]⟩, .bool false, .slice (some ⟨g, 0, none⟩) 1 1, .slice none 0 0, .slice A3 n3 c3, .slice none 0 0] 30)) 27 #[.slice A3 n3 c3]
            rw [show (w2.alloc (.cells #[.string ⟨#[82, 83, 84, 82, 69, 65, 77]⟩, .string ⟨#[117, 58, 111]⟩, .bool false, .slice (some ⟨g, 0, none⟩) 1 1, .slice none 0 0, .slice A3 n3 c3, .slice none 0 0] 30)).heap.size = w2.heap.size + 1 by simp] at hgb
            have HFA := Lib.hid hfa
            have HGB := Lib.hid hgb
            clear hb2 hg2 hf2 hfa hgb
            go_wp2_with fail
            generalize (w2.alloc (.cells #[.string ⟨#[82, 83, 84, 82, 69, 65, 77]⟩, .string ⟨#[117, 58, 111]⟩, .bool false, .slice (some ⟨g, 0, none⟩) 1 1, .slice none 0 0, .slice A3 n3 c3, .slice none 0 0] 30)).alloc (.cells #[.slice A3 n3 c3] 27) = w4 at *
            have HS2 := Lib.hid (show w2.heap.size < w2.heap.size + 1 by omega)
            generalize w2.heap.size + 1 = gb at *
            go_loopw [57] (fun iv wr => ∃ k d A3 n3 c3, iv = .int .i64 ((k : Nat) : Int) ∧ k + d = m ∧ GroupAt w2 w1.heap.size d (.slice A3 n3 c3) ∧ Blk wr gb 27 #[.slice A3 n3 c3] ∧ Fr (fun j => j = gb) w4 wr) (fun iv _ => m - (intOf iv).toNat)
            case atStart => exact ⟨0, m, _, _, _, rfl, by omega, HG2.out, HGB.out, Fr.refl _ _⟩
            case round =>
              obtain ⟨k, d, A3, n3, c3, rfl, hkd, hga, hgb, hf4⟩ := hrel
              have hf24 : Fr (fun _ => False) w2 wr := HFA.out.trans hf4 (fun j hj e => by have := HS2.out; omega)
              by_cases hlt : k < m
              · have hlt' : (k : Int) < (m : Int) := by omega
                obtain ⟨d, rfl⟩ : ∃ d', d = d' + 1 := ⟨d - 1, by omega⟩
                obtain ⟨g1, c1, g2, c2, A4, n4, c4, hv, hc1, r1, r2, hc2, r3, hga2⟩ := nest_read hga hf24
                cases hv
                have b0 : wr.cell? ⟨gb, 0, none⟩ = some (.slice (some ⟨g1, 0, none⟩) 1 c3) := hgb.cell 0
                have fb := hgb.frozen 0
                have lb := hgb.lt
                have HGA := Lib.hid hga2
                have FS : Fr (fun j => j = gb) wr (wr.setCell ⟨gb, 0, none⟩ (.slice A4 n4 c4)) := (Fr.refl (fun j => j = gb) wr).setCell ⟨gb, 0, none⟩ (fun _ => rfl) _
                have HB5 := Lib.hid (show Blk (wr.setCell ⟨gb, 0, none⟩ (.slice A4 n4 c4)) gb 27 #[.slice A4 n4 c4] from hgb.set_ 0 (.slice A4 n4 c4))
                have HF5 := Lib.hid (hf4.trans' FS)
                clear hga hga2 hgb hf4 hf24 FS
                go_wp2_with fail
                go_roundw
                case rel => exact ⟨k + 1, d, _, _, _, by go_num, by omega, HGA.out, HB5.out, HF5.out⟩
                case measure => simp only [intOf]; omega
              · have hlt' : ¬ (k : Int) < (m : Int) := by omega
                obtain rfl : d = 0 := by omega
                have hv : (Value.slice A3 n3 c3) = .slice none 0 0 := hga
                cases hv
                have b0 : wr.cell? ⟨gb, 0, none⟩ = some (.slice none 0 0) := hgb.cell 0
                have HFF := Lib.hid (HF2.out.trans' hf24)
                clear hga hgb hf4 hf24
                go_wp2_with fail
                go_ret
                exact ⟨rfl, HFF.out⟩
          · have HP := Lib.hid (nest_bad m (by omega) hm w1)
            have hmi : (m : Int) + 1 > 40 := by omega
            generalize nestT (m + 1) (m + 1) = nt at *
            unfold ParseBad zero30 at HP
            refine HP.out.mono ?_
            rintro e w2 ⟨rfl, hf2⟩
            have HF2 := Lib.hid (HF1.out.trans' hf2)
            clear hf2
            go_wp2_with fail
            go_ret
            exact ⟨rfl, HF2.out.alloc _⟩

end Go.Proofs.YtebddgdkndmpjaaGreatDoor
