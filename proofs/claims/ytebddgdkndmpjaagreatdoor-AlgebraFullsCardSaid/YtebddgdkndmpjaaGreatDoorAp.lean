/- BIND of a literal in a group: walked. -/
import Derived.Test.YtebddgdkndmpjaaGreatDoorAn
import Derived.Test.YtebddgdkndmpjaaGreatDoorAo
import Derived.Deep.CutBlock
import Derived.Deep.RegionLawGrows
import Derived.Deep.Cut
import Derived.Deep.CutRange
import Derived.WalkKit
import Derived.WalkLawsBesides
import Derived.WalkSpells
import Derived.Deep.QuietTactic
import Derived.BigRegion
import Derived.BigQuiet
import Derived.Lib.Hide
import Derived.Outline
import Derived.Deep.AppendLies
import Derived.Deep.RegionLaw
import Derived.Deep.RegionWith
import Derived.Deep.RegionHeld3
import Derived.Deep.LoopGhost
import Derived.Deep.DeepFit
import Derived.Laws.ResultCell
import Derived.Laws.RangeAny
import Derived.Deep.MidRow
import Derived.StillTailTactics
import Derived.OpenShut
namespace Go.Proofs.YtebddgdkndmpjaaGreatDoor
set_option linter.unusedVariables false
open Go.RowKit Go

/-- The table, put into a block. -/
theorem ext_put {w w4 w5 : World} {vb b r B k rb : Nat} {sp : Option Addr} {vt : Value} {room : Int} {xs : List Int} {e : Ending} (hf : Fr (fun _ => False) w w4) (hev : EvBlk w4 vb b sp 0) (hd : IsDict w4 B b r vt (smalls k) room) (hrb : Blk w4 rb 63 #[.slice none 0 0, .slice none 0 0]) (hlt : w.heap.size ≤ rb)
    (h : ExtPost w4 vb b r B k sp vt room xs e w5) : ∃ V vc A d, e = .returned (.agg #[.slice V (k + 1) vc, .slice A 1 d]) ∧ Blk w5 rb 63 #[.slice none 0 0, .slice none 0 0] ∧
    Blk ((w5.setCell ⟨rb, 0, none⟩ (.slice V (k + 1) vc)).setCell ⟨rb, 1, none⟩ (.slice A 1 d)) rb 63 #[.slice V (k + 1) vc, .slice A 1 d] ∧
    ExtPost w vb b r B k sp vt room xs (.returned (.agg #[.slice V (k + 1) vc, .slice A 1 d])) ((w5.setCell ⟨rb, 0, none⟩ (.slice V (k + 1) vc)).setCell ⟨rb, 1, none⟩ (.slice A 1 d)) := by
  obtain ⟨V4, c4, vr4, vals4, vt4, n, er, l, rfl, ho4, hr4, hev4, hd4, hf4, hcase⟩ := h
  have hc4 := bind_blk hev hd hf4 hrb (by decide) (by decide) (by decide)
  obtain ⟨A4, d4, hv4⟩ := row_shape hr4.own
  subst hv4
  have hs5 := hc4.set_ 0 (.slice V4 (k + 1) c4)
  have FS : Fr (fun j => j = rb) w5 ((w5.setCell ⟨rb, 0, none⟩ (.slice V4 (k + 1) c4)).setCell ⟨rb, 1, none⟩ (.slice A4 1 d4)) := ((Fr.refl (fun j => j = rb) w5).setCell ⟨rb, 0, none⟩ (fun _ => rfl) _).setCell ⟨rb, 1, none⟩ (fun _ => rfl) _
  have hsz := hf.size
  refine ⟨V4, c4, A4, d4, rfl, hc4, hs5.set_ 1 (.slice A4 1 d4), V4, c4, _, vals4, vt4, n, er, l, rfl, ownsRow_base (ownsRow_fr ho4 FS (fun j hj e => own_blk_ne ho4 hc4 (by decide) (by rw [hj, e]))) hsz, (hr4.frB hc4 (by decide) (by decide) FS).base hsz, Blk.fr hev4 FS (fun e => Blk.ne_ hev4 hc4 (by decide) e),
    hd4.fr FS (fun e => Blk.ne_ hd4.blk hc4 (by decide) e) (fun e => hd4.map.ne_blk hc4 e.symm) (fun j hj e => own_blk_ne hd4.row hc4 (by decide) (by rw [hj, e])), ((hf.mono (fun _ _ h => h.elim)).trans hf4 (fun _ _ h => h)).trans FS (fun j hj e => absurd hj (by omega)), hcase⟩

set_option maxRecDepth 100000 in
set_option maxHeartbeats 4000000 in
theorem item_any (vb b r B B2 B3 k vc c : Nat) (sp V A : Option Addr) (vals : List Value) (xs : List Int) (vt fv : Value) (room : Int) (w : World) (hk : k < 9) (hb : EvBlk w vb b sp 0) (hd : IsDict w B b r vt (smalls k) room) (hB : B ≤ w.heap.size)
    (hV : k = 0 → V = none ∧ vc = 0) (hs : w.ownsRow B2 9 1 (.slice V k vc) k ((letters.take k).map .string)) (hr : RowsAt w B3 (.slice A 1 c) vals [xs]) (hx : xs.length = k) (hxm : ∀ j, j < k → -1 ≤ xs.getD j 0) :
    Calls Tryz.prog 138 #[.pointer (some ⟨vb, 0, none⟩), .agg #[.slice V k vc, .slice A 1 c], .agg (litItem k), fv] w (ExtPost w vb b r B k sp vt room xs) := by
  have hz1 : (w.alloc (.cells #[.pointer (some ⟨vb, 0, none⟩)] 161)).heap.size = w.heap.size + 1 := by simp
  have hz2 : ((w.alloc (.cells #[.pointer (some ⟨vb, 0, none⟩)] 161)).alloc (.cells #[.slice V k vc, .slice A 1 c] 63)).heap.size = w.heap.size + 1 + 1 := by simp
  have hz3 : (((w.alloc (.cells #[.pointer (some ⟨vb, 0, none⟩)] 161)).alloc (.cells #[.slice V k vc, .slice A 1 c] 63)).alloc (.cells (litItem k) 46)).heap.size = w.heap.size + 1 + 1 + 1 := by simp
  have F4 : Fr (fun _ => False) w ((((w.alloc (.cells #[.pointer (some ⟨vb, 0, none⟩)] 161)).alloc (.cells #[.slice V k vc, .slice A 1 c] 63)).alloc (.cells (litItem k) 46)).alloc (.cells #[.slice none 0 0, .slice none 0 0] 63)) := ((((Fr.refl _ _).alloc _).alloc _).alloc _).alloc _
  have hvx := (((Blk.new w 161 #[.pointer (some ⟨vb, 0, none⟩)]).alloc (.cells #[.slice V k vc, .slice A 1 c] 63)).alloc (.cells (litItem k) 46)).alloc (.cells #[.slice none 0 0, .slice none 0 0] 63)
  have hxb := (Blk.new ((w.alloc (.cells #[.pointer (some ⟨vb, 0, none⟩)] 161)).alloc (.cells #[.slice V k vc, .slice A 1 c] 63)) 46 (litItem k)).alloc (.cells #[.slice none 0 0, .slice none 0 0] 63)
  have hrb := Blk.new (((w.alloc (.cells #[.pointer (some ⟨vb, 0, none⟩)] 161)).alloc (.cells #[.slice V k vc, .slice A 1 c] 63)).alloc (.cells (litItem k) 46)) 63 #[.slice none 0 0, .slice none 0 0]
  rw [hz2] at hxb
  rw [hz3] at hrb
  have hev4 : EvBlk _ vb b sp 0 := Blk.fr hb F4 (fun h => h)
  have hd4 := hd.frF F4
  have HE := Lib.hid (ext_any w.heap.size (w.heap.size + 1 + 1) vb b r B B2 B3 k vc c sp V A vals xs vt room _ hk hev4 hd4 (Nat.le_trans hB F4.size) hvx hxb hV (ownsRow_fr hs F4 (fun _ _ h => h)) (hr.frF F4) hx hxm)
  have HP := Lib.hid (fun e w5 h => ext_put (w := w) (w5 := w5) (e := e) (xs := xs) F4 hev4 hd4 hrb (by omega) h)
  clear hev4 hd4 hrb hvx hxb F4 hz1 hz2 hz3 hb hd hs hr
  unfold litItem at HE HP ⊢
  obtain ⟨d0, x9, hsh⟩ := Tm.shape (smallTm k)
  rw [hsh] at HE HP ⊢
  generalize letters.getD k ByteArray.empty = y at *
  clear hsh
  go_enter Tryz.func138, Tryz.ntmps138
  go_wp2_with fail
  refine HE.out.mono ?_
  intro e w5 hp
  obtain ⟨V5, c5, A5, d5, rfl, hb5, hb6, hp5⟩ := HP.out e w5 hp
  have HB6 := Lib.hid hb6
  have HP5 := Lib.hid hp5
  have hlcb := hb5.lt
  have f0 := hb5.frozen 0
  have f1 := hb5.frozen 1
  have cc0 : w5.cell? ⟨w.heap.size + 1 + 1 + 1, 0, none⟩ = some (.slice none 0 0) := hb5.cell 0
  have cc12 : w5.cell? ⟨w.heap.size + 1 + 1 + 1, 1, none⟩ = some (.slice none 0 0) := hb5.cell 1
  have hb2 := hb5.set_ 0 (.slice V5 (k + 1) c5)
  have cc1 : (w5.setCell ⟨w.heap.size + 1 + 1 + 1, 0, none⟩ (.slice V5 (k + 1) c5)).cell? ⟨w.heap.size + 1 + 1 + 1, 1, none⟩ = some (.slice none 0 0) := hb2.cell 1
  have f12 : (w5.setCell ⟨w.heap.size + 1 + 1 + 1, 0, none⟩ (.slice V5 (k + 1) c5)).frozen? ⟨w.heap.size + 1 + 1 + 1, 1, none⟩ = false := hb2.frozen 1
  have hl2 := hb2.lt
  clear hp hb5 hb6 hp5 hb2
  go_wp2_with fail
  exact bodyPost_ret (v := .agg #[.slice V5 (k + 1) c5, .slice A5 1 d5]) (results_cell_row rfl _ _ (w.heap.size + 1 + 1 + 1) 63 _ (0, 0) _ rfl HB6.out Tryz.underlying63 rfl (by kernel_rfl)) rfl HP5.out

end Go.Proofs.YtebddgdkndmpjaaGreatDoor
