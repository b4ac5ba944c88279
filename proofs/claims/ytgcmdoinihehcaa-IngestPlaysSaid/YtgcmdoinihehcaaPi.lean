/- Is: the buffer by a heap, and the document's, agree: walked. -/
import Derived.Test.YtgcmdoinihehcaaWk
import Derived.Test.YtgcmdoinihehcaaAc
import Derived.Test.YtgcmdoinihehcaaPn
import Derived.WalkKit
import Derived.WalkLawsBesides
import Derived.WalkSpells
import Derived.Deep.QuietTactic
import Derived.BigRegion
import Derived.BigQuiet
import Derived.Lib.Hide
import Derived.Outline
import Derived.Deep.AppendLies
import Derived.Deep.RegionLaw
import Derived.Deep.RegionWith
import Derived.Deep.RegionHeld3
import Derived.Deep.LoopGhost
import Derived.Deep.DeepFit
import Derived.Laws.ResultCell
import Derived.Deep.MidRow
import Derived.StillTailTactics
import Derived.OpenShut
namespace Go.Proofs.Ytgcmdoinihehcaa
set_option linter.unusedVariables false
open Go.RowKit Go

set_option maxRecDepth 100000 in
set_option maxHeartbeats 8000000 in
theorem is_any (B b n0 : Nat) (v : Value) (s : St) (q : Array Item) (k : Nat) (r : RB) (vw vs vc : Value) (w : World) (hbuf : IsBuf w B b v s q) (hn : n0 ≤ w.heap.size) (hm : RMem w n0 r vw vs vc) (hrp : RP k s q r) (hk : k ≤ 1000)
    (h0 : 0 ≤ r.lat) (h1 : r.lat ≤ 1152921504606846976) :
    Calls Try.prog 23 #[.pointer (some ⟨b, 0, none⟩), rAgg r vw vs vc] w fun e w' => e = .returned (.bool true) ∧ Fr (fun _ => False) w w' := by
  have hm2 := hm.frF ((Fr.refl (fun _ => False) w).alloc (.cells (bCells r.lat r.room vw vs vc r.num r.late r.closed) 54))
  have hbu := hbuf.frF ((Fr.refl (fun _ => False) w).alloc (.cells (bCells r.lat r.room vw vs vc r.num r.late r.closed) 54))
  have e1 : (w.alloc (.cells (bCells r.lat r.room vw vs vc r.num r.late r.closed) 54)).heap.size = w.heap.size + 1 := by simp
  have hX := Blk.new w 54 (bCells r.lat r.room vw vs vc r.num r.late r.closed)
  have F0 : Fr (fun _ => False) w (w.alloc (.cells (bCells r.lat r.room vw vs vc r.num r.late r.closed) 54)) := (Fr.refl _ _).alloc _
  have hbx := hX.lt
  have MK := Lib.hid (fun n => rmark_any r.lat r.room vw vs vc r.num r.late r.closed n0 r.seen r.shown ((w.alloc (.cells (bCells r.lat r.room vw vs vc r.num r.late r.closed) 54)).drewN n) (by show n0 ≤ (w.alloc _).heap.size; omega) hm2.seen hm2.shown (by have := hrp.slen; omega) (by have := hrp.clen; omega) h0 h1 hrp.times)
  have MM := Lib.hid (mark_any b v s _ hbu.pq.blk)
  have hme : markL r.lat (r.seen ++ r.shown) = (s.mark, s.marked) := hrp.markEq
  rw [hme] at MK
  have hlen := hrp.size
  have hlate := hrp.late
  have hclosed := hrp.closed
  obtain ⟨A1, c1, hv1⟩ := row_shape hm.wait
  subst hv1
  have C14 := Lib.hid (fun w1 (F : Fr (fun _ => False) (w.alloc (.cells (bCells r.lat r.room (.slice A1 r.wait.length c1) vs vc r.num r.late r.closed) 54)) w1) => hlen ▸ blen_any B b v s q w1 (hbu.frF F))
  have C13 := Lib.hid (fun w1 (F : Fr (fun _ => False) (w.alloc (.cells (bCells r.lat r.room (.slice A1 r.wait.length c1) vs vc r.num r.late r.closed) 54)) w1) => hlate ▸ late_any b v s w1 (hbu.frF F).pq.blk)
  have C18 := Lib.hid (fun w1 (F : Fr (fun _ => False) (w.alloc (.cells (bCells r.lat r.room (.slice A1 r.wait.length c1) vs vc r.num r.late r.closed) 54)) w1) => hclosed ▸ closed_any b v s w1 (hbu.frF F).pq.blk)
  have HX := Lib.hid hX
  have HF0 := Lib.hid F0
  clear hm hm2 hbuf hbu hrp e1 hX F0 hme hlen hlate hclosed
  go_enter Try.func23, Try.ntmps23
  go_wp2_with fail
  refine MM.out.mono ?_
  rintro e w1 ⟨rfl, n1, rfl⟩
  go_wp2_with fail
  refine (MK.out n1).mono ?_
  rintro e w2 ⟨rfl, hf2⟩
  have F2 : Fr (fun _ => False) (w.alloc (.cells (bCells r.lat r.room (.slice A1 r.wait.length c1) vs vc r.num r.late r.closed) 54)) w2 := ((Fr.refl _ _).drewN n1).trans' hf2
  have hX2 := HX.out.fr F2 (fun h => h)
  have x2 := hX2.cell 2
  have x6 := hX2.cell 6
  have x7 := hX2.cell 7
  simp only [List.getElem?_toArray, List.getElem?_cons_zero, List.getElem?_cons_succ] at x2 x6 x7
  have FE := HF0.out.trans' F2
  have hx2 := hX2.lt
  have HF2 := Lib.hid F2
  have HFE := Lib.hid FE
  generalize s.mark = m at *
  generalize s.marked = ok at *
  clear MM MK hX2 F2 FE HF0 HX hf2
  have g1 : (m == m) = true := by simp
  have g2 : (ok == ok) = true := by simp
  have g3 : ((r.wait.length : Int) == (r.wait.length : Int)) = true := by simp
  have g4 : (r.late == r.late) = true := by simp
  have g5 : (r.closed == r.closed) = true := by simp
  go_wp2_with fail
  go_quiet (first
    | (go_at_call 14; exact Calls.quiet_of_same ((C14.out _ (HF2.out.drewN _)).mono fun _ _ h => ⟨h.1, h.2.symm⟩))
    | (go_at_call 13; exact Calls.quiet_of_same ((C13.out _ (HF2.out.drewN _)).mono fun _ _ h => ⟨h.1, h.2.symm⟩))
    | (go_at_call 18; exact Calls.quiet_of_same ((C18.out _ (HF2.out.drewN _)).mono fun _ _ h => ⟨h.1, h.2.symm⟩)))
  go_wp2_with fail
  go_ret
  exact ⟨rfl, HFE.out.drewN _⟩

end Go.Proofs.Ytgcmdoinihehcaa
