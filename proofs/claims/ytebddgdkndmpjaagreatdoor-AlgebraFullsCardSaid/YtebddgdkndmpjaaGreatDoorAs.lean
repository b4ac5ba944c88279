/- The table of a group that binds literals, or the error: walked. -/
import Derived.Test.YtebddgdkndmpjaaGreatDoorAq
import Derived.Deep.CutBlock
import Derived.Deep.RegionLawGrows
import Derived.Deep.Cut
import Derived.Deep.CutRange
import Derived.WalkKit
import Derived.WalkLawsBesides
import Derived.WalkSpells
import Derived.Deep.QuietTactic
import Derived.BigRegion
import Derived.BigQuiet
import Derived.Lib.Hide
import Derived.Outline
import Derived.Deep.AppendLies
import Derived.Deep.RegionLaw
import Derived.Deep.RegionWith
import Derived.Deep.RegionHeld3
import Derived.Deep.LoopGhost
import Derived.Deep.DeepFit
import Derived.Laws.ResultCell
import Derived.Laws.RangeAny
import Derived.Deep.MidRow
import Derived.StillTailTactics
import Derived.OpenShut
namespace Go.Proofs.YtebddgdkndmpjaaGreatDoor
set_option linter.unusedVariables false
open Go.RowKit Go

/-- What Eval tells of n items that bind. -/
def EvalPost (w : World) (b r B n : Nat) (room : Int) (e : Ending) (w' : World) : Prop :=
  ∃ vt l, IsDict w' B b r vt l room ∧ KP B w w' ∧
    ((∃ V vc A c vals, e = .returned (.tuple #[.agg #[.slice V n vc, .slice A 1 c], .int .i64 0]) ∧ (n : Int) ≤ room ∧ (n = 0 → V = none ∧ vc = 0) ∧ w'.ownsRow w.heap.size 9 1 (.slice V n vc) n ((letters.take n).map .string) ∧ RowsAt w' w.heap.size (.slice A 1 c) vals [ramp n] ∧ l = smalls n) ∨
      (e = .returned (.tuple #[.agg #[.slice none 0 0, .slice none 0 0], .int .i64 6]) ∧ room < (n : Int)))

set_option maxRecDepth 100000 in
set_option maxHeartbeats 40000000 in
theorem evalN (b r B B4 n cc : Nat) (s G : Option Addr) (vt : Value) (room : Int) (w : World) (hn : n ≤ 9) (hroom : 0 ≤ room) (hd : IsDict w B b r vt [] room) (hB : B ≤ w.heap.size) (hi : ItemsAt w B4 (.slice G n cc) n) :
    Calls Tryz.prog 33 #[.agg #[.slice G n cc], .agg #[.pointer (some ⟨b, 0, none⟩), .pointer s, .map none]] w (EvalPost w b r B n room) := by
  have hz1 : (w.alloc (.cells #[.slice G n cc] 27)).heap.size = w.heap.size + 1 := by simp
  have hz2 : ((w.alloc (.cells #[.slice G n cc] 27)).alloc (.cells #[.pointer (some ⟨b, 0, none⟩), .pointer s, .map none] 94)).heap.size = w.heap.size + 1 + 1 := by simp
  have hz3 : (((w.alloc (.cells #[.slice G n cc] 27)).alloc (.cells #[.pointer (some ⟨b, 0, none⟩), .pointer s, .map none] 94)).alloc (.cells #[.slice none 0 0, .slice none 0 0] 63)).heap.size = w.heap.size + 1 + 1 + 1 := by simp
  have F4 : Fr (fun _ => False) w ((((w.alloc (.cells #[.slice G n cc] 27)).alloc (.cells #[.pointer (some ⟨b, 0, none⟩), .pointer s, .map none] 94)).alloc (.cells #[.slice none 0 0, .slice none 0 0] 63)).alloc (.cells #[.pointer (some ⟨b, 0, none⟩), .pointer s, .map none, .int .i64 0] 163)) := ((((Fr.refl (fun _ => False) w).alloc _).alloc _).alloc _).alloc _
  have B2 := (Blk.new ((w.alloc (.cells #[.slice G n cc] 27)).alloc (.cells #[.pointer (some ⟨b, 0, none⟩), .pointer s, .map none] 94)) 63 #[.slice none 0 0, .slice none 0 0]).alloc (.cells #[.pointer (some ⟨b, 0, none⟩), .pointer s, .map none, .int .i64 0] 163)
  have B3 := Blk.new (((w.alloc (.cells #[.slice G n cc] 27)).alloc (.cells #[.pointer (some ⟨b, 0, none⟩), .pointer s, .map none] 94)).alloc (.cells #[.slice none 0 0, .slice none 0 0] 63)) 163 #[.pointer (some ⟨b, 0, none⟩), .pointer s, .map none, .int .i64 0]
  rw [hz2] at B2
  rw [hz3] at B3
  have HG := Lib.hid (fun fv => groupN (w.heap.size + 1 + 1 + 1) b r B B4 n cc s G vt room fv _ hn hroom B3 (hd.frF F4) (Nat.le_trans hB F4.size) (by omega) (hi.fr F4 (fun _ _ h => h)))
  have HB2 := Lib.hid B2
  have HF4 := Lib.hid F4
  have hsz4 := F4.size
  clear hz1 hz2 hz3 hd hi B2 B3 F4
  go_enter Tryz.func33, Tryz.ntmps33
  go_wp2_with fail
  refine (HG.out _).mono ?_
  rintro e w3 ⟨j, V3, vc3, A3, c3, vals3, xs, vt3, er, l, rfl, hj, hV3, hs3, hr3, hxl, hev3, hd3, hkp3, hbd⟩
  have C3 := hkp3.blk HB2.out (by decide) (by decide) (by decide)
  have hlk := Blk.lt hev3
  have k3 : w3.cell? ⟨w.heap.size + 1 + 1 + 1, 3, none⟩ = some (.int .i64 er) := Blk.cell hev3 3
  have hlcb := C3.lt
  have f0 := C3.frozen 0
  have f1 := C3.frozen 1
  have cc0 : w3.cell? ⟨w.heap.size + 1 + 1, 0, none⟩ = some (.slice none 0 0) := C3.cell 0
  have cc12 : w3.cell? ⟨w.heap.size + 1 + 1, 1, none⟩ = some (.slice none 0 0) := C3.cell 1
  have hkp := ((KP.refl B w).new HF4.out (fun _ h => h.elim) hB)
  have hkw : KP B w w3 := by
    obtain ⟨S, hf3, hb3, ht3⟩ := hkp3
    refine ⟨S, (HF4.out.mono (fun _ _ h => h.elim)).trans hf3 (fun _ _ h => h), hb3, fun g t cs hg h1 h2 h3 => ht3 g t cs (hg.fr HF4.out (fun h => h)) h1 h2 h3⟩
  rcases hbd with ⟨rfl, rfl, hnr, rfl, rfl⟩ | ⟨rfl, hrn⟩
  · have hb2 := C3.set_ 0 (.slice V3 j vc3)
    have cc1 : (w3.setCell ⟨w.heap.size + 1 + 1, 0, none⟩ (.slice V3 j vc3)).cell? ⟨w.heap.size + 1 + 1, 1, none⟩ = some (.slice none 0 0) := hb2.cell 1
    have f12 : (w3.setCell ⟨w.heap.size + 1 + 1, 0, none⟩ (.slice V3 j vc3)).frozen? ⟨w.heap.size + 1 + 1, 1, none⟩ = false := hb2.frozen 1
    have hl2 := hb2.lt
    have hb3 : Blk ((w3.setCell ⟨w.heap.size + 1 + 1, 0, none⟩ (.slice V3 j vc3)).setCell ⟨w.heap.size + 1 + 1, 1, none⟩ (.slice A3 1 c3)) (w.heap.size + 1 + 1) 63 #[.slice V3 j vc3, .slice A3 1 c3] := hb2.set_ 1 (.slice A3 1 c3)
    have FS : Fr (fun q => q = w.heap.size + 1 + 1) w3 ((w3.setCell ⟨w.heap.size + 1 + 1, 0, none⟩ (.slice V3 j vc3)).setCell ⟨w.heap.size + 1 + 1, 1, none⟩ (.slice A3 1 c3)) := ((Fr.refl (fun q => q = w.heap.size + 1 + 1) w3).setCell ⟨w.heap.size + 1 + 1, 0, none⟩ (fun _ => rfl) _).setCell ⟨w.heap.size + 1 + 1, 1, none⟩ (fun _ => rfl) _
    have FA : Fr (fun _ => False) ((w3.setCell ⟨w.heap.size + 1 + 1, 0, none⟩ (.slice V3 j vc3)).setCell ⟨w.heap.size + 1 + 1, 1, none⟩ (.slice A3 1 c3)) (((w3.setCell ⟨w.heap.size + 1 + 1, 0, none⟩ (.slice V3 j vc3)).setCell ⟨w.heap.size + 1 + 1, 1, none⟩ (.slice A3 1 c3)).alloc (.cells #[.slice V3 j vc3, .slice A3 1 c3] 63)) := (Fr.refl _ _).alloc _
    have HB3 := Lib.hid (hb3.alloc (.cells #[.slice V3 j vc3, .slice A3 1 c3] 63))
    have HPOST := Lib.hid (show EvalPost w b r B j room (.returned (.tuple #[.agg #[.slice V3 j vc3, .slice A3 1 c3], .int .i64 0])) (((w3.setCell ⟨w.heap.size + 1 + 1, 0, none⟩ (.slice V3 j vc3)).setCell ⟨w.heap.size + 1 + 1, 1, none⟩ (.slice A3 1 c3)).alloc (.cells #[.slice V3 j vc3, .slice A3 1 c3] 63)) from
      ⟨vt3, _, (hd3.fr FS (fun e => Blk.ne_ hd3.blk C3 (by decide) e) (fun e => hd3.map.ne_blk C3 e.symm) (fun q hq e => own_blk_ne hd3.row C3 (by decide) (by rw [hq, e]))).frF FA, (hkw.new FS (fun q e => by omega) hB).new FA (fun _ h => h.elim) hB,
        .inl ⟨V3, vc3, A3, c3, vals3, rfl, hnr, hV3, ownsRow_base ((ownsRow_fr hs3 FS (fun q hq e => own_blk_ne hs3 C3 (by decide) (by rw [hq, e]))).alloc _) hsz4, ((hr3.frB C3 (by decide) (by decide) FS).frF FA).base hsz4, rfl⟩⟩)
    clear hb2 hb3 FS FA hr3 hs3 C3 hd3 hkp3 hkp hkw hev3
    go_wp2_with fail
    exact bodyPost_ret (v := .tuple #[.agg #[.slice V3 j vc3, .slice A3 1 c3], .int .i64 0]) (results_c2 rfl _ _ (w.heap.size + 1 + 1) 63 _ (0, 0) _ rfl HB3.out Tryz.underlying63 rfl (by kernel_rfl) _ rfl) rfl HPOST.out
  · have hb2 := C3.set_ 0 (.slice none 0 0)
    have cc1 : (w3.setCell ⟨w.heap.size + 1 + 1, 0, none⟩ (.slice none 0 0)).cell? ⟨w.heap.size + 1 + 1, 1, none⟩ = some (.slice none 0 0) := hb2.cell 1
    have f12 : (w3.setCell ⟨w.heap.size + 1 + 1, 0, none⟩ (.slice none 0 0)).frozen? ⟨w.heap.size + 1 + 1, 1, none⟩ = false := hb2.frozen 1
    have hl2 := hb2.lt
    have hb3 : Blk ((w3.setCell ⟨w.heap.size + 1 + 1, 0, none⟩ (.slice none 0 0)).setCell ⟨w.heap.size + 1 + 1, 1, none⟩ (.slice none 0 0)) (w.heap.size + 1 + 1) 63 #[.slice none 0 0, .slice none 0 0] := hb2.set_ 1 (.slice none 0 0)
    have FS : Fr (fun q => q = w.heap.size + 1 + 1) w3 ((w3.setCell ⟨w.heap.size + 1 + 1, 0, none⟩ (.slice none 0 0)).setCell ⟨w.heap.size + 1 + 1, 1, none⟩ (.slice none 0 0)) := ((Fr.refl (fun q => q = w.heap.size + 1 + 1) w3).setCell ⟨w.heap.size + 1 + 1, 0, none⟩ (fun _ => rfl) _).setCell ⟨w.heap.size + 1 + 1, 1, none⟩ (fun _ => rfl) _
    have FA : Fr (fun _ => False) ((w3.setCell ⟨w.heap.size + 1 + 1, 0, none⟩ (.slice none 0 0)).setCell ⟨w.heap.size + 1 + 1, 1, none⟩ (.slice none 0 0)) (((w3.setCell ⟨w.heap.size + 1 + 1, 0, none⟩ (.slice none 0 0)).setCell ⟨w.heap.size + 1 + 1, 1, none⟩ (.slice none 0 0)).alloc (.cells #[.slice V3 j vc3, .slice A3 1 c3] 63)).drew := ((Fr.refl _ _).alloc _).drew
    have HB3 := Lib.hid (hb3.alloc (.cells #[.slice V3 j vc3, .slice A3 1 c3] 63)).drew
    have HPOST := Lib.hid (show EvalPost w b r B n room (.returned (.tuple #[.agg #[.slice none 0 0, .slice none 0 0], .int .i64 6])) (((w3.setCell ⟨w.heap.size + 1 + 1, 0, none⟩ (.slice none 0 0)).setCell ⟨w.heap.size + 1 + 1, 1, none⟩ (.slice none 0 0)).alloc (.cells #[.slice V3 j vc3, .slice A3 1 c3] 63)).drew from
      ⟨vt3, _, (hd3.fr FS (fun e => Blk.ne_ hd3.blk C3 (by decide) e) (fun e => hd3.map.ne_blk C3 e.symm) (fun q hq e => own_blk_ne hd3.row C3 (by decide) (by rw [hq, e]))).frF FA, (hkw.new FS (fun q e => by omega) hB).new FA (fun _ h => h.elim) hB, .inr ⟨rfl, hrn⟩⟩)
    have k3s : ((w3.setCell ⟨w.heap.size + 1 + 1, 0, none⟩ (.slice none 0 0)).setCell ⟨w.heap.size + 1 + 1, 1, none⟩ (.slice none 0 0)).cell? ⟨w.heap.size + 1 + 1 + 1, 3, none⟩ = some (.int .i64 6) := cell_frS FS (by simp) k3
    have k3t : (((w3.setCell ⟨w.heap.size + 1 + 1, 0, none⟩ (.slice none 0 0)).setCell ⟨w.heap.size + 1 + 1, 1, none⟩ (.slice none 0 0)).alloc (.cells #[.slice V3 j vc3, .slice A3 1 c3] 63)).drew.cell? ⟨w.heap.size + 1 + 1 + 1, 3, none⟩ = some (.int .i64 6) := cell_fr ((Fr.refl _ _).alloc _).drew k3s
    clear hb2 hb3 FS FA hr3 hs3 C3 hd3 hkp3 hkp hkw hev3
    have k3a : (w3.alloc (.cells #[.slice V3 j vc3, .slice A3 1 c3] 63)).cell? ⟨w.heap.size + 1 + 1 + 1, 3, none⟩ = some (.int .i64 6) := cell_fr ((Fr.refl _ _).alloc _) k3
    have k3d : (w3.alloc (.cells #[.slice V3 j vc3, .slice A3 1 c3] 63)).drew.cell? ⟨w.heap.size + 1 + 1 + 1, 3, none⟩ = some (.int .i64 6) := cell_fr ((Fr.refl _ _).alloc _).drew k3
    go_wp2_with fail
    go_region_held3 (fun wy => wy.cell? ⟨w.heap.size + 1 + 1 + 1, 3, none⟩ = some (.int .i64 6)) (first | exact k3t | exact k3d | exact k3a | exact k3) (fail)
    all_goals
      go_wp2_with fail
      exact bodyPost_ret (v := .tuple #[.agg #[.slice none 0 0, .slice none 0 0], .int .i64 6]) (results_c2 rfl _ _ (w.heap.size + 1 + 1) 63 _ (0, 0) _ rfl HB3.out Tryz.underlying63 rfl (by kernel_rfl) _ rfl) rfl HPOST.out

end Go.Proofs.YtebddgdkndmpjaaGreatDoor
