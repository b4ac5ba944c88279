/- The group of no items, and what it is worth: walked. -/
import Derived.Test.YtebddgdkndmpjaaGreatDoorAa
import Derived.Deep.CutBlock
import Derived.Deep.RegionLawGrows
import Derived.Deep.Cut
import Derived.Deep.CutRange
import Derived.WalkKit
import Derived.WalkLawsBesides
import Derived.WalkSpells
import Derived.Deep.QuietTactic
import Derived.BigRegion
import Derived.BigQuiet
import Derived.Lib.Hide
import Derived.Outline
import Derived.Deep.AppendLies
import Derived.Deep.RegionLaw
import Derived.Deep.RegionWith
import Derived.Deep.RegionHeld3
import Derived.Deep.LoopGhost
import Derived.Deep.DeepFit
import Derived.Laws.ResultCell
import Derived.Laws.RangeAny
import Derived.Deep.MidRow
import Derived.StillTailTactics
import Derived.OpenShut
namespace Go.Proofs.YtebddgdkndmpjaaGreatDoor
set_option linter.unusedVariables false
open Go.RowKit Go

theorem results_c2' {P : Program} {fn : Func} {p c : Tmp} {ty : TypeId} (h : fn.results = #[.cell p ty, .tmp c]) (tmps : Array Value) (w : World) :
    (results fn tmps).run P w = ((asAddr (tmps.getD p undef)).run P w).andThen fun q w₁ => ((loadVar ty q).run P w₁).andThen fun v w₂ => .ok (.tuple #[v, tmps.getD c undef]) w₂ := by
  simp only [results, h]
  simp [Sem.run_bind, Result.andThen]
theorem results_c2 {P : Program} {fn : Func} {p c : Tmp} {ty : TypeId} (h : fn.results = #[.cell p ty, .tmp c]) (tmps : Array Value) (w : World) (g : Nat) (t : TypeId) (cs : Array Value) (fr : Nat × Nat) (ds : TypeDesc)
    (hp : tmps.getD p undef = .pointer (some ⟨g, 0, none⟩)) (hg : w.heap[g]? = some (.cells cs t fr))
    (hu : P.underlying ty = some ds) (hd : (match ds with | .struct _ | .array _ _ => true | _ => false) = true) (hi : (P.info? ty).map (·.size) = some cs.size) (vc : Value) (hc : tmps.getD c undef = vc) :
    (results fn tmps).run P w = .ok (.tuple #[.agg cs, vc]) w := by
  rw [results_c2' h, hp, hc]
  simp [asAddr, run_loadVar_row w g t ty cs fr ds hg hu hd hi]

set_option maxRecDepth 100000 in
set_option maxHeartbeats 4000000 in
theorem idx0 (f : Value) (w : World) : Calls Tryz.prog 197 #[.slice none 0 0, f] w fun e w' => e = .returned (.int .i64 (-1)) ∧ w = w' := by
  go_enter Tryz.func197, Tryz.ntmps197
  go_wp2_with fail
  go_loopw [8] (fun iv wr => iv = .int .i64 0 ∧ w = wr) (fun _ _ => 0)
  case atStart => exact ⟨rfl, rfl⟩
  case round =>
    obtain ⟨rfl, rfl⟩ := hrel
    go_wp2_with fail
    go_ret
    exact ⟨rfl, rfl⟩
set_option maxRecDepth 100000 in
set_option maxHeartbeats 4000000 in
theorem has0 (f : Value) (w : World) : Calls Tryz.prog 140 #[.slice none 0 0, f] w fun e w' => e = .returned (.bool false) ∧ w = w' := by
  have HI := Lib.hid (fun w => idx0 f w)
  go_enter Tryz.func140, Tryz.ntmps140
  go_wp2_with fail
  refine (HI.out _).mono ?_
  rintro e w1 ⟨rfl, rfl⟩
  go_wp2_with fail
  go_ret
  exact ⟨rfl, rfl⟩

set_option maxRecDepth 100000 in
set_option maxHeartbeats 4000000 in
theorem keep0 (gb vb : Nat) (V A : Option Addr) (m vc n c k rc : Nat) (R : Option Addr) (p : Option Addr) (w : World) (hg : Blk w gb 27 #[.slice none 0 0]) (hv : Blk w vb 161 #[.pointer p]) :
    Calls Tryz.prog 139 #[.agg #[.slice V m vc, .slice A n c], .slice R k rc, .pointer (some ⟨gb, 0, none⟩), .pointer (some ⟨vb, 0, none⟩)] w (IsB true w) := by
  have HH := Lib.hid (fun f w => has0 f w)
  have g0 := hg.cell 0
  have v0 := hv.cell 0
  simp only [List.getElem?_toArray, List.getElem?_cons_zero] at g0 v0
  have hg1 := hg.lt
  clear hg hv
  go_enter Tryz.func139, Tryz.ntmps139
  go_wp2_with fail
  refine (HH.out _ _).mono ?_
  rintro e w1 ⟨rfl, rfl⟩
  go_wp2_with fail
  go_ret
  exact ⟨rfl, ((Fr.refl _ _).alloc _).alloc _⟩

set_option maxRecDepth 100000 in
set_option maxHeartbeats 4000000 in
theorem group0 (p : Option Addr) (fv : Value) (w : World) :
    Calls Tryz.prog 81 #[.pointer p, .agg #[.slice none 0 0], fv] w (FilterPost w 0 [] [[]]) := by
  have HU := Lib.hid (fun w => unit_any w)
  have HF := Lib.hid (fun gb vb V A m vc n c k rc R p w hg hv => keep0 gb vb V A m vc n c k rc R p w hg hv)
  go_enter Tryz.func81, Tryz.ntmps81
  go_wp2_with fail
  refine (HU.out _).mono ?_
  rintro e w1 ⟨vr, vals, rfl, hr1, hf1⟩
  obtain ⟨A1, c1, hvr⟩ := row_shape hr1.own
  subst hvr
  rw [show ([[]] : List (List Int)).length = 1 from rfl]
  have hz1 : (w.alloc (.cells #[.pointer p] 161)).heap.size = w.heap.size + 1 := by simp
  have hz2 : ((w.alloc (.cells #[.pointer p] 161)).alloc (.cells #[.slice none 0 0] 27)).heap.size = w.heap.size + 1 + 1 := by simp
  have hz3 : (((w.alloc (.cells #[.pointer p] 161)).alloc (.cells #[.slice none 0 0] 27)).alloc (.cells #[.slice none 0 0, .slice none 0 0] 63)).heap.size = w.heap.size + 3 := by simp
  have hsz1 := hf1.size
  rw [hz3] at hsz1 hr1
  have HR1 := Lib.hid (hr1.frF ((Fr.refl (fun _ => False) w1).alloc (.cells #[.slice none 0 0, .slice A1 1 c1] 63)))
  have B0 := Lib.hid (show Blk (w1.alloc (.cells #[.slice none 0 0, .slice A1 1 c1] 63)) w.heap.size 161 #[.pointer p] from ((((Blk.new w 161 #[.pointer p]).alloc (.cells #[.slice none 0 0] 27)).alloc (.cells #[.slice none 0 0, .slice none 0 0] 63)).fr hf1 (fun h => h)).alloc _)
  have hb1 := ((Blk.new (w.alloc (.cells #[.pointer p] 161)) 27 #[.slice none 0 0]).alloc (.cells #[.slice none 0 0, .slice none 0 0] 63)).fr hf1 (fun h => h)
  rw [hz1] at hb1
  have B1 := Lib.hid (hb1.alloc (.cells #[.slice none 0 0, .slice A1 1 c1] 63))
  have hb2 := (Blk.new ((w.alloc (.cells #[.pointer p] 161)).alloc (.cells #[.slice none 0 0] 27)) 63 #[.slice none 0 0, .slice none 0 0]).fr hf1 (fun h => h)
  rw [hz2] at hb2
  have B2 := Lib.hid (hb2.alloc (.cells #[.slice none 0 0, .slice A1 1 c1] 63))
  have HF1 := Lib.hid ((((((Fr.refl (fun _ => False) w).alloc (.cells #[.pointer p] 161)).alloc (.cells #[.slice none 0 0] 27)).alloc (.cells #[.slice none 0 0, .slice none 0 0] 63)).trans' hf1).alloc (.cells #[.slice none 0 0, .slice A1 1 c1] 63))
  have hc1 : w1.cell? ⟨w.heap.size + 1, 0, none⟩ = some (.slice none 0 0) := hb1.cell 0
  have hlt1 : w.heap.size + 1 < w1.heap.size := hb1.lt
  have hlt2 : w.heap.size + 1 + 1 < w1.heap.size := hb2.lt
  clear hr1 hb1 hb2 hf1
  go_wp2_with fail
  obtain ⟨w2, hw2⟩ : ∃ w2, w2 = w1.alloc (.cells #[.slice none 0 0, .slice A1 1 c1] 63) := ⟨_, rfl⟩
  go_loopw [14] (fun iv wr => iv = .int .i64 0 ∧ wr = w1.alloc (.cells #[.slice none 0 0, .slice A1 1 c1] 63)) (fun _ _ => 0)
  case atStart => exact ⟨rfl, rfl⟩
  case round =>
    obtain ⟨rfl, rfl⟩ := hrel
    have HFI := Lib.hid (filter_any 139 #[.pointer (some ⟨w.heap.size + 1, 0, none⟩), .pointer (some ⟨w.heap.size, 0, none⟩)] 0 0 0 _ none (.slice A1 1 c1) vals [[]] [] (w1.alloc (.cells #[.slice none 0 0, .slice A1 1 c1] 63)) (by omega) (fun _ => ⟨rfl, rfl⟩) (by decide) (fun i hi => by
      have : i = 0 := by simp at hi; omega
      subst this; rfl) (World.ownsRow_nil _ _ _ _) HR1.out (fun _ _ => rfl) (fun wy i hi hy => by
      have hi0 : i = 0 := by simp at hi; omega
      subst hi0
      obtain ⟨R, rc, hv⟩ := row_shape (HR1.out.each 0 (by decide))
      rw [hv]
      exact HF.out _ _ _ _ _ _ _ _ _ _ _ _ wy (B1.out.fr hy (fun h => absurd h (by simp; omega))) (B0.out.fr hy (fun h => absurd h (by simp; omega)))))
    go_wp2_with fail
    refine HFI.out.mono ?_
    rintro e w3 ⟨V3, vc3, vr3, vals3, rfl, hV3, hs3, hr3, hf3⟩
    obtain ⟨rfl, rfl⟩ := hV3 rfl
    clear hV3
    obtain ⟨A3, c3, hv3⟩ := row_shape hr3.own
    subst hv3
    rw [show ([[]] : List (List Int)).length = 1 from rfl]
    have hs4 := ownsRow_base hs3 (show w.heap.size ≤ _ by simp; omega)
    have hr4 := hr3.base (show w.heap.size ≤ _ by simp; omega)
    have C3 := B2.out.fr hf3 (fun h => h)
    have hlcb := C3.lt
    have f0 := C3.frozen 0
    have f1 := C3.frozen 1
    have cc0 : w3.cell? ⟨w.heap.size + 1 + 1, 0, none⟩ = some (.slice none 0 0) := C3.cell 0
    have cc12 : w3.cell? ⟨w.heap.size + 1 + 1, 1, none⟩ = some (.slice none 0 0) := C3.cell 1
    have hb2 := C3.set_ 0 (.slice none 0 0)
    have cc1 : (w3.setCell ⟨w.heap.size + 1 + 1, 0, none⟩ (.slice none 0 0)).cell? ⟨w.heap.size + 1 + 1, 1, none⟩ = some (.slice none 0 0) := hb2.cell 1
    have f12 : (w3.setCell ⟨w.heap.size + 1 + 1, 0, none⟩ (.slice none 0 0)).frozen? ⟨w.heap.size + 1 + 1, 1, none⟩ = false := hb2.frozen 1
    have hl2 := hb2.lt
    have hb3 : Blk ((w3.setCell ⟨w.heap.size + 1 + 1, 0, none⟩ (.slice none 0 0)).setCell ⟨w.heap.size + 1 + 1, 1, none⟩ (.slice A3 1 c3)) (w.heap.size + 1 + 1) 63 #[.slice none 0 0, .slice A3 1 c3] := hb2.set_ 1 (.slice A3 1 c3)
    have FS : Fr (fun j => j = w.heap.size + 1 + 1) w3 ((w3.setCell ⟨w.heap.size + 1 + 1, 0, none⟩ (.slice none 0 0)).setCell ⟨w.heap.size + 1 + 1, 1, none⟩ (.slice A3 1 c3)) := ((Fr.refl (fun j => j = w.heap.size + 1 + 1) w3).setCell ⟨w.heap.size + 1 + 1, 0, none⟩ (fun _ => rfl) _).setCell ⟨w.heap.size + 1 + 1, 1, none⟩ (fun _ => rfl) _
    have HB3 := Lib.hid hb3
    have HRA3 := Lib.hid (hr4.frB C3 (by decide) (by decide) FS)
    have HVR3 := Lib.hid (ownsRow_fr hs4 FS (fun j hj e => own_blk_ne hs4 C3 (by decide) (by rw [hj, e])))
    have HF3 := Lib.hid ((((HF1.out.trans' hf3).mono (S := fun _ => False) (T := fun j => w.heap.size ≤ j) (fun _ _ h => h.elim)).trans FS (fun j _ h => by omega)).shut (Nat.le_refl _))
    clear hb2 hb3 FS hs4 hr4 hs3 hr3 hf3 C3
    go_wp2_with fail
    exact bodyPost_ret (v := .agg #[.slice none 0 0, .slice A3 1 c3]) (results_cell_row rfl _ _ (w.heap.size + 1 + 1) 63 _ (0, 0) _ rfl HB3.out Tryz.underlying63 rfl (by kernel_rfl)) rfl ⟨none, 0, .slice A3 1 c3, vals3, rfl, fun _ => ⟨rfl, rfl⟩, HVR3.out, HRA3.out, HF3.out⟩

/-- The table without vars, of one row; no error. -/
def UnitOk (w : World) (e : Ending) (w' : World) : Prop := ∃ vr vals, e = .returned (.tuple #[.agg #[.slice none 0 0, vr], .int .i64 0]) ∧ RowsAt w' w.heap.size vr vals [[]] ∧ Fr (fun _ => False) w w'

set_option maxRecDepth 100000 in
set_option maxHeartbeats 4000000 in
/-- The group of no items is worth the table without vars, of one row. -/
theorem eval0 (d s : Option Addr) (w : World) : Calls Tryz.prog 33 #[.agg #[.slice none 0 0], .agg #[.pointer d, .pointer s, .map none]] w (UnitOk w) := by
  have HG := Lib.hid (fun p fv w => group0 p fv w)
  go_enter Tryz.func33, Tryz.ntmps33
  go_wp2_with fail
  have hz1 : (w.alloc (.cells #[.slice none 0 0] 27)).heap.size = w.heap.size + 1 := by simp
  have hz2 : ((w.alloc (.cells #[.slice none 0 0] 27)).alloc (.cells #[.pointer d, .pointer s, .map none] 94)).heap.size = w.heap.size + 1 + 1 := by simp
  have hz3 : (((w.alloc (.cells #[.slice none 0 0] 27)).alloc (.cells #[.pointer d, .pointer s, .map none] 94)).alloc (.cells #[.slice none 0 0, .slice none 0 0] 63)).heap.size = w.heap.size + 1 + 1 + 1 := by simp
  have B2 := Lib.hid ((Blk.new ((w.alloc (.cells #[.slice none 0 0] 27)).alloc (.cells #[.pointer d, .pointer s, .map none] 94)) 63 #[.slice none 0 0, .slice none 0 0]).alloc (.cells #[.pointer d, .pointer s, .map none, .int .i64 0] 163))
  have B3 := Lib.hid (Blk.new (((w.alloc (.cells #[.slice none 0 0] 27)).alloc (.cells #[.pointer d, .pointer s, .map none] 94)).alloc (.cells #[.slice none 0 0, .slice none 0 0] 63)) 163 #[.pointer d, .pointer s, .map none, .int .i64 0])
  have F0 := Lib.hid ((((((Fr.refl (fun _ => False) w).alloc (.cells #[.slice none 0 0] 27)).alloc (.cells #[.pointer d, .pointer s, .map none] 94)).alloc (.cells #[.slice none 0 0, .slice none 0 0] 63)).alloc (.cells #[.pointer d, .pointer s, .map none, .int .i64 0] 163)))
  rw [hz2] at B2
  rw [hz3] at B3
  clear hz1 hz2 hz3
  refine (HG.out _ _ _).mono ?_
  rintro e w3 ⟨V3, vc3, vr3, vals3, rfl, hV3, hs3, hr3, hf3⟩
  obtain ⟨rfl, rfl⟩ := hV3 rfl
  clear hV3
  obtain ⟨A3, c3, hv3⟩ := row_shape hr3.own
  subst hv3
  rw [show ([[]] : List (List Int)).length = 1 from rfl]
  have hr4 := hr3.base (show w.heap.size ≤ _ by simp; omega)
  have C3 := B2.out.fr hf3 (fun h => h)
  have D3 := B3.out.fr hf3 (fun h => h)
  have hlk := D3.lt
  have k3 : w3.cell? ⟨w.heap.size + 1 + 1 + 1, 3, none⟩ = some (.int .i64 0) := D3.cell 3
  have hlcb := C3.lt
  have f0 := C3.frozen 0
  have f1 := C3.frozen 1
  have cc0 : w3.cell? ⟨w.heap.size + 1 + 1, 0, none⟩ = some (.slice none 0 0) := C3.cell 0
  have cc12 : w3.cell? ⟨w.heap.size + 1 + 1, 1, none⟩ = some (.slice none 0 0) := C3.cell 1
  have hb2 := C3.set_ 0 (.slice none 0 0)
  have cc1 : (w3.setCell ⟨w.heap.size + 1 + 1, 0, none⟩ (.slice none 0 0)).cell? ⟨w.heap.size + 1 + 1, 1, none⟩ = some (.slice none 0 0) := hb2.cell 1
  have f12 : (w3.setCell ⟨w.heap.size + 1 + 1, 0, none⟩ (.slice none 0 0)).frozen? ⟨w.heap.size + 1 + 1, 1, none⟩ = false := hb2.frozen 1
  have hl2 := hb2.lt
  have hb3 : Blk ((w3.setCell ⟨w.heap.size + 1 + 1, 0, none⟩ (.slice none 0 0)).setCell ⟨w.heap.size + 1 + 1, 1, none⟩ (.slice A3 1 c3)) (w.heap.size + 1 + 1) 63 #[.slice none 0 0, .slice A3 1 c3] := hb2.set_ 1 (.slice A3 1 c3)
  have FS : Fr (fun j => j = w.heap.size + 1 + 1) w3 ((w3.setCell ⟨w.heap.size + 1 + 1, 0, none⟩ (.slice none 0 0)).setCell ⟨w.heap.size + 1 + 1, 1, none⟩ (.slice A3 1 c3)) := ((Fr.refl (fun j => j = w.heap.size + 1 + 1) w3).setCell ⟨w.heap.size + 1 + 1, 0, none⟩ (fun _ => rfl) _).setCell ⟨w.heap.size + 1 + 1, 1, none⟩ (fun _ => rfl) _
  have HB3 := Lib.hid (hb3.alloc (.cells #[.slice none 0 0, .slice A3 1 c3] 63))
  have HRA3 := Lib.hid ((hr4.frB C3 (by decide) (by decide) FS).frF ((Fr.refl (fun _ => False) _).alloc (.cells #[.slice none 0 0, .slice A3 1 c3] 63)))
  have HF3 := Lib.hid ((((F0.out.trans' hf3).mono (S := fun _ => False) (T := fun j => w.heap.size ≤ j) (fun _ _ h => h.elim)).trans FS (fun j _ h => by omega)).alloc (.cells #[.slice none 0 0, .slice A3 1 c3] 63) |>.shut (Nat.le_refl _))
  clear hb2 hb3 FS hr4 hs3 hr3 hf3 C3 D3
  go_wp2_with fail
  exact bodyPost_ret (v := .tuple #[.agg #[.slice none 0 0, .slice A3 1 c3], .int .i64 0]) (results_c2 rfl _ _ (w.heap.size + 1 + 1) 63 _ (0, 0) _ rfl HB3.out Tryz.underlying63 rfl (by kernel_rfl) _ rfl) rfl ⟨.slice A3 1 c3, vals3, rfl, HRA3.out, HF3.out⟩

end Go.Proofs.YtebddgdkndmpjaaGreatDoor
