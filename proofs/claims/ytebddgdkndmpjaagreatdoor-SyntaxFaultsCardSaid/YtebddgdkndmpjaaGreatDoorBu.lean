/- Groups of one triple: walked. -/
import Derived.Test.YtebddgdkndmpjaaGreatDoorBt
import Derived.Test.YtebddgdkndmpjaaGreatDoorBo
import Derived.Deep.CutBlock
import Derived.Deep.RegionLawGrows
import Derived.Deep.Cut
import Derived.Deep.CutRange
import Derived.WalkKit
import Derived.WalkLawsBesides
import Derived.WalkSpells
import Derived.Deep.QuietTactic
import Derived.BigRegion
import Derived.BigQuiet
import Derived.Lib.Hide
import Derived.Outline
import Derived.Deep.AppendLies
import Derived.Deep.RegionLaw
import Derived.Deep.RegionWith
import Derived.Deep.RegionHeld3
import Derived.Deep.LoopGhost
import Derived.Deep.DeepFit
import Derived.Laws.ResultCell
import Derived.Laws.RangeAny
import Derived.Deep.MidRow
import Derived.StillTailTactics
import Derived.OpenShut
namespace Go.Proofs.YtebddgdkndmpjaaGreatDoor
set_option linter.unusedVariables false
open Go.RowKit Go

/-- The one item, put into the group. -/
theorem flat_push {w6 w8 : World} {ob b c q gg cap : Nat} {A : Option Addr} {rs : List Int} {o : Obj} (hs : Sc w6 b A c rs q) (ho : Blk w6 ob 27 #[.slice none 0 0]) (hgr : (w6.alloc o).grownBy w8 (Value.slice none 0 0).ownBlock) :
    (Sc (w8.setCell ⟨ob, 0, none⟩ (.slice (some ⟨gg, 0, none⟩) 1 cap)) b A c rs q ∧ Blk (w8.setCell ⟨ob, 0, none⟩ (.slice (some ⟨gg, 0, none⟩) 1 cap)) ob 27 #[.slice (some ⟨gg, 0, none⟩) 1 cap]) ∧ Fr (fun j => j = ob) w6 (w8.setCell ⟨ob, 0, none⟩ (.slice (some ⟨gg, 0, none⟩) 1 cap)) := by
  have F8 : Fr (fun _ => False) w6 w8 := ((Fr.refl _ w6).alloc o).trans (Fr.of_grown hgr) (fun _ _ h => by cases h)
  have ho8 := ho.fr F8 (fun h => h)
  have FS : Fr (fun j => j = ob) w8 (w8.setCell ⟨ob, 0, none⟩ (.slice (some ⟨gg, 0, none⟩) 1 cap)) := (Fr.refl (fun j => j = ob) w8).setCell ⟨ob, 0, none⟩ (fun _ => rfl) _
  exact ⟨⟨(hs.frF F8).fr FS (fun e => Blk.ne_ hs.blk ho (by decide) e) (fun j hj e => own_blk_ne hs.row ho (by decide) (by rw [hj, e])), ho8.set_ 0 _⟩, (F8.mono (fun _ _ h => h.elim)).trans' FS⟩

set_option maxRecDepth 100000 in
set_option maxHeartbeats 40000000 in
/-- An item that is a triple. -/
theorem item_iri (v1 v2 : ByteArray) (xs : Array Value) (left : Int) (b c p q : Nat) (A : Option Addr) (rs : List Int) (w : World) (hs : skip rs [0] p = p) (hp : peekOf rs p = 63) (HT : ∀ w1, Sg w1 → Sc w1 b A c rs p → Calls Tryz.prog 211 #[.agg #[.pointer (some ⟨b, 0, none⟩)]] w1 (ScPost w1 b A c rs q (.agg #[.int .i64 0, .string v1, .nilIface, .string ⟨#[]⟩, .nilIface, .string ⟨#[]⟩, .iface 78 (.agg xs), .int .i64 0, .string v2, .slice none 0 0, .string ⟨#[]⟩, .string ⟨#[]⟩, .nilIface, .slice none 0 0, .string ⟨#[]⟩, .string ⟨#[]⟩, .slice none 0 0]))) (hg : Sg w) (h : Sc w b A c rs p) :
    Calls Tryz.prog 154 #[.agg #[.pointer (some ⟨b, 0, none⟩)], .int .i64 left] w (ScPost w b A c rs q (.agg #[.int .i64 0, .string v1, .nilIface, .string ⟨#[]⟩, .nilIface, .string ⟨#[]⟩, .iface 78 (.agg xs), .int .i64 0, .string v2, .slice none 0 0, .string ⟨#[]⟩, .string ⟨#[]⟩, .nilIface, .slice none 0 0, .string ⟨#[]⟩, .string ⟨#[]⟩, .slice none 0 0])) := by
  have hf : Fr (fun _ => False) w ((w.alloc (.cells #[.pointer (some ⟨b, 0, none⟩)] 108)).alloc (.cells #[.int .i64 0, .string ⟨#[]⟩, .nilIface, .string ⟨#[]⟩, .nilIface, .string ⟨#[]⟩, .nilIface, .int .i64 0, .string ⟨#[]⟩, .slice none 0 0, .string ⟨#[]⟩, .string ⟨#[]⟩, .nilIface, .slice none 0 0, .string ⟨#[]⟩, .string ⟨#[]⟩, .slice none 0 0] 46)) := ((Fr.refl _ _).alloc _).alloc _
  have hx := Blk.new w 108 #[.pointer (some ⟨b, 0, none⟩)]
  have hy := Blk.new (w.alloc (.cells #[.pointer (some ⟨b, 0, none⟩)] 108)) 46 #[.int .i64 0, .string ⟨#[]⟩, .nilIface, .string ⟨#[]⟩, .nilIface, .string ⟨#[]⟩, .nilIface, .int .i64 0, .string ⟨#[]⟩, .slice none 0 0, .string ⟨#[]⟩, .string ⟨#[]⟩, .nilIface, .slice none 0 0, .string ⟨#[]⟩, .string ⟨#[]⟩, .slice none 0 0]
  rw [show (w.alloc (.cells #[.pointer (some ⟨b, 0, none⟩)] 108)).heap.size = w.heap.size + 1 by simp] at hy
  have hx := hx.alloc (.cells #[.int .i64 0, .string ⟨#[]⟩, .nilIface, .string ⟨#[]⟩, .nilIface, .string ⟨#[]⟩, .nilIface, .int .i64 0, .string ⟨#[]⟩, .slice none 0 0, .string ⟨#[]⟩, .string ⟨#[]⟩, .nilIface, .slice none 0 0, .string ⟨#[]⟩, .string ⟨#[]⟩, .slice none 0 0] 46)
  have HX := Lib.hid hx
  have HY := Lib.hid hy
  have HF := Lib.hid hf
  have HS := Lib.hid (h.frF hf)
  have hbl := h.blk.lt
  have n0 := word_no (T := ⟨#[70, 73, 76, 84, 69, 82]⟩) hs hp (by decide) (by decide)
  have W0 := Lib.hid (fun w1 h1 => word_sc ⟨#[70, 73, 76, 84, 69, 82]⟩ b c p A rs w1 (ascii_of (by decide)) (by decide) h1)
  rw [n0.1, n0.2] at W0
  have n1 := word_no (T := ⟨#[66, 73, 78, 68]⟩) hs hp (by decide) (by decide)
  have W1 := Lib.hid (fun w1 h1 => word_sc ⟨#[66, 73, 78, 68]⟩ b c p A rs w1 (ascii_of (by decide)) (by decide) h1)
  rw [n1.1, n1.2] at W1
  have n2 := word_no (T := ⟨#[79, 80, 84, 73, 79, 78, 65, 76]⟩) hs hp (by decide) (by decide)
  have W2 := Lib.hid (fun w1 h1 => word_sc ⟨#[79, 80, 84, 73, 79, 78, 65, 76]⟩ b c p A rs w1 (ascii_of (by decide)) (by decide) h1)
  rw [n2.1, n2.2] at W2
  have n3 := word_no (T := ⟨#[87, 73, 78, 68, 79, 87]⟩) hs hp (by decide) (by decide)
  have W3 := Lib.hid (fun w1 h1 => word_sc ⟨#[87, 73, 78, 68, 79, 87]⟩ b c p A rs w1 (ascii_of (by decide)) (by decide) h1)
  rw [n3.1, n3.2] at W3
  have HN := Lib.hid (fun w1 h1 => nextsign_sc b c p A rs w1 h1)
  rw [hs, hp] at HN
  have HTT := Lib.hid HT
  have HSG := Lib.hid (hg.frF hf)
  clear h hf hx hy hs hp HT hg n0 n1 n2 n3
  go_enter Tryz.func154, Tryz.ntmps154
  go_wp2_with fail
  refine (W0.out _ HS.out).mono ?_
  rintro e w1 ⟨rfl, hs1, hf1⟩
  have hx1 := HX.out.fr hf1 (fun e => by omega)
  have x1 : w1.cell? ⟨w.heap.size, 0, none⟩ = some (.pointer (some ⟨b, 0, none⟩)) := hx1.cell 0
  have HX1 := Lib.hid hx1
  have HY1 := Lib.hid (HY.out.fr hf1 (fun e => by omega))
  have HS1 := Lib.hid hs1
  have HF1 := Lib.hid ((HF.out.mono (T := fun j => j = b) (fun _ _ h => h.elim)).trans' hf1)
  have HSG1 := Lib.hid (HSG.out.frB HS.out.blk (by decide) hf1)
  clear hs1 hf1 hx1
  go_wp2_with fail
  refine (W1.out _ HS1.out).mono ?_
  rintro e w2 ⟨rfl, hs2, hf2⟩
  have hx2 := HX1.out.fr hf2 (fun e => by omega)
  have x2 : w2.cell? ⟨w.heap.size, 0, none⟩ = some (.pointer (some ⟨b, 0, none⟩)) := hx2.cell 0
  have HX2 := Lib.hid hx2
  have HY2 := Lib.hid (HY1.out.fr hf2 (fun e => by omega))
  have HS2 := Lib.hid hs2
  have HF2 := Lib.hid (HF1.out.trans' hf2)
  have HSG2 := Lib.hid (HSG1.out.frB HS1.out.blk (by decide) hf2)
  clear hs2 hf2 hx2 x1
  go_wp2_with fail
  refine (W2.out _ HS2.out).mono ?_
  rintro e w3 ⟨rfl, hs3, hf3⟩
  have hx3 := HX2.out.fr hf3 (fun e => by omega)
  have x3 : w3.cell? ⟨w.heap.size, 0, none⟩ = some (.pointer (some ⟨b, 0, none⟩)) := hx3.cell 0
  have HX3 := Lib.hid hx3
  have HY3 := Lib.hid (HY2.out.fr hf3 (fun e => by omega))
  have HS3 := Lib.hid hs3
  have HF3 := Lib.hid (HF2.out.trans' hf3)
  have HSG3 := Lib.hid (HSG2.out.frB HS2.out.blk (by decide) hf3)
  clear hs3 hf3 hx3 x2
  go_wp2_with fail
  refine (W3.out _ HS3.out).mono ?_
  rintro e w4 ⟨rfl, hs4, hf4⟩
  have hx4 := HX3.out.fr hf4 (fun e => by omega)
  have x4 : w4.cell? ⟨w.heap.size, 0, none⟩ = some (.pointer (some ⟨b, 0, none⟩)) := hx4.cell 0
  have HX4 := Lib.hid hx4
  have HY4 := Lib.hid (HY3.out.fr hf4 (fun e => by omega))
  have HS4 := Lib.hid hs4
  have HF4 := Lib.hid (HF3.out.trans' hf4)
  have HSG4 := Lib.hid (HSG3.out.frB HS3.out.blk (by decide) hf4)
  clear hs4 hf4 hx4 x3
  go_wp2_with fail
  refine (HN.out _ HS4.out).mono ?_
  rintro e w5 ⟨rfl, hs5, hf5⟩
  have hx5 := HX4.out.fr hf5 (fun e => by omega)
  have x5 : w5.cell? ⟨w.heap.size, 0, none⟩ = some (.pointer (some ⟨b, 0, none⟩)) := hx5.cell 0
  have HX5 := Lib.hid hx5
  have HY5 := Lib.hid (HY4.out.fr hf5 (fun e => by omega))
  have HS5 := Lib.hid hs5
  have HF5 := Lib.hid (HF4.out.trans' hf5)
  have HSG5 := Lib.hid (HSG4.out.frB HS4.out.blk (by decide) hf5)
  clear hs5 hf5 hx5 x4
  go_wp2_with fail
  refine (HTT.out _ HSG5.out HS5.out).mono ?_
  rintro e w6 ⟨rfl, hs6, hf6⟩
  have hx6 := HX5.out.fr hf6 (fun e => by omega)
  have x6 : w6.cell? ⟨w.heap.size, 0, none⟩ = some (.pointer (some ⟨b, 0, none⟩)) := hx6.cell 0
  have HX6 := Lib.hid hx6
  have HY6 := Lib.hid (HY5.out.fr hf6 (fun e => by omega))
  have HS6 := Lib.hid hs6
  have HF6 := Lib.hid (HF5.out.trans' hf6)
  clear hs6 hf6 hx6 x5
  have hy7 := HY6.out
  have hst7 := Blk.setAll (vs := [.int .i64 0, .string v1, .nilIface, .string ⟨#[]⟩, .nilIface, .string ⟨#[]⟩, .iface 78 (.agg xs), .int .i64 0, .string v2, .slice none 0 0, .string ⟨#[]⟩, .string ⟨#[]⟩, .nilIface, .slice none 0 0, .string ⟨#[]⟩, .string ⟨#[]⟩, .slice none 0 0]) (old := [.int .i64 0, .string ⟨#[]⟩, .nilIface, .string ⟨#[]⟩, .nilIface, .string ⟨#[]⟩, .nilIface, .int .i64 0, .string ⟨#[]⟩, .slice none 0 0, .string ⟨#[]⟩, .string ⟨#[]⟩, .nilIface, .slice none 0 0, .string ⟨#[]⟩, .string ⟨#[]⟩, .slice none 0 0]) hy7 rfl
  have HTH7 := Lib.hid (Blk.there (cs := [.int .i64 0, .string ⟨#[]⟩, .nilIface, .string ⟨#[]⟩, .nilIface, .string ⟨#[]⟩, .nilIface, .int .i64 0, .string ⟨#[]⟩, .slice none 0 0, .string ⟨#[]⟩, .string ⟨#[]⟩, .nilIface, .slice none 0 0, .string ⟨#[]⟩, .string ⟨#[]⟩, .slice none 0 0]) hy7 (n := 17) rfl)
  have HST7 := Lib.hid hst7.1
  have HSS7 := Lib.hid (HS6.out.fr hst7.2 (fun e => by omega) (fun j hj e => own_blk_ne HS6.out.row hy7 (by decide) (by rw [hj, e])))
  have HFF7 := Lib.hid (HF6.out.trans (T := fun j => j = b ∨ j = w.heap.size + 1) (hst7.2.mono (fun _ _ h => .inr h)) (fun j hj h => h.elim id (fun h => absurd hj (by omega))))
  have HONE7 := Lib.hid (show (#[.int .i64 0, .string v1, .nilIface, .string ⟨#[]⟩, .nilIface, .string ⟨#[]⟩, .iface 78 (.agg xs), .int .i64 0, .string v2, .slice none 0 0, .string ⟨#[]⟩, .string ⟨#[]⟩, .nilIface, .slice none 0 0, .string ⟨#[]⟩, .string ⟨#[]⟩, .slice none 0 0] : Array Value).all (·.oneCell') = true from all_oneCell_toArray (by intro v hv; simp only [List.mem_cons, List.not_mem_nil, or_false] at hv; rcases hv with rfl | rfl | rfl | rfl | rfl | rfl | rfl | rfl | rfl | rfl | rfl | rfl | rfl | rfl | rfl | rfl | rfl <;> rfl))
  have hlt7 := hy7.lt
  clear hy7 hst7
  go_wp2_with (refine wpList_store_mid rfl 46 _ _ rfl _ _ _ rfl rfl HTH7.out inf46 HONE7.out ?_)
  exact bodyPost_ret (v := .agg #[.int .i64 0, .string v1, .nilIface, .string ⟨#[]⟩, .nilIface, .string ⟨#[]⟩, .iface 78 (.agg xs), .int .i64 0, .string v2, .slice none 0 0, .string ⟨#[]⟩, .string ⟨#[]⟩, .nilIface, .slice none 0 0, .string ⟨#[]⟩, .string ⟨#[]⟩, .slice none 0 0]) (results_cell_row rfl _ _ (w.heap.size + 1) 46 _ (0, 0) _ rfl HST7.out Tryz.underlying46 rfl (by kernel_rfl)) rfl ⟨rfl, HSS7.out, HFF7.out⟩

set_option maxRecDepth 100000 in
set_option maxHeartbeats 40000000 in
/-- An item that is a triple. -/
theorem item_var (v1 v2 v3 : ByteArray) (left : Int) (b c p q : Nat) (A : Option Addr) (rs : List Int) (w : World) (hs : skip rs [0] p = p) (hp : peekOf rs p = 63) (HT : ∀ w1, Sg w1 → Sc w1 b A c rs p → Calls Tryz.prog 211 #[.agg #[.pointer (some ⟨b, 0, none⟩)]] w1 (ScPost w1 b A c rs q (.agg #[.int .i64 0, .string v1, .nilIface, .string v2, .nilIface, .string v3, .nilIface, .int .i64 0, .string ⟨#[]⟩, .slice none 0 0, .string ⟨#[]⟩, .string ⟨#[]⟩, .nilIface, .slice none 0 0, .string ⟨#[]⟩, .string ⟨#[]⟩, .slice none 0 0]))) (hg : Sg w) (h : Sc w b A c rs p) :
    Calls Tryz.prog 154 #[.agg #[.pointer (some ⟨b, 0, none⟩)], .int .i64 left] w (ScPost w b A c rs q (.agg #[.int .i64 0, .string v1, .nilIface, .string v2, .nilIface, .string v3, .nilIface, .int .i64 0, .string ⟨#[]⟩, .slice none 0 0, .string ⟨#[]⟩, .string ⟨#[]⟩, .nilIface, .slice none 0 0, .string ⟨#[]⟩, .string ⟨#[]⟩, .slice none 0 0])) := by
  have hf : Fr (fun _ => False) w ((w.alloc (.cells #[.pointer (some ⟨b, 0, none⟩)] 108)).alloc (.cells #[.int .i64 0, .string ⟨#[]⟩, .nilIface, .string ⟨#[]⟩, .nilIface, .string ⟨#[]⟩, .nilIface, .int .i64 0, .string ⟨#[]⟩, .slice none 0 0, .string ⟨#[]⟩, .string ⟨#[]⟩, .nilIface, .slice none 0 0, .string ⟨#[]⟩, .string ⟨#[]⟩, .slice none 0 0] 46)) := ((Fr.refl _ _).alloc _).alloc _
  have hx := Blk.new w 108 #[.pointer (some ⟨b, 0, none⟩)]
  have hy := Blk.new (w.alloc (.cells #[.pointer (some ⟨b, 0, none⟩)] 108)) 46 #[.int .i64 0, .string ⟨#[]⟩, .nilIface, .string ⟨#[]⟩, .nilIface, .string ⟨#[]⟩, .nilIface, .int .i64 0, .string ⟨#[]⟩, .slice none 0 0, .string ⟨#[]⟩, .string ⟨#[]⟩, .nilIface, .slice none 0 0, .string ⟨#[]⟩, .string ⟨#[]⟩, .slice none 0 0]
  rw [show (w.alloc (.cells #[.pointer (some ⟨b, 0, none⟩)] 108)).heap.size = w.heap.size + 1 by simp] at hy
  have hx := hx.alloc (.cells #[.int .i64 0, .string ⟨#[]⟩, .nilIface, .string ⟨#[]⟩, .nilIface, .string ⟨#[]⟩, .nilIface, .int .i64 0, .string ⟨#[]⟩, .slice none 0 0, .string ⟨#[]⟩, .string ⟨#[]⟩, .nilIface, .slice none 0 0, .string ⟨#[]⟩, .string ⟨#[]⟩, .slice none 0 0] 46)
  have HX := Lib.hid hx
  have HY := Lib.hid hy
  have HF := Lib.hid hf
  have HS := Lib.hid (h.frF hf)
  have hbl := h.blk.lt
  have n0 := word_no (T := ⟨#[70, 73, 76, 84, 69, 82]⟩) hs hp (by decide) (by decide)
  have W0 := Lib.hid (fun w1 h1 => word_sc ⟨#[70, 73, 76, 84, 69, 82]⟩ b c p A rs w1 (ascii_of (by decide)) (by decide) h1)
  rw [n0.1, n0.2] at W0
  have n1 := word_no (T := ⟨#[66, 73, 78, 68]⟩) hs hp (by decide) (by decide)
  have W1 := Lib.hid (fun w1 h1 => word_sc ⟨#[66, 73, 78, 68]⟩ b c p A rs w1 (ascii_of (by decide)) (by decide) h1)
  rw [n1.1, n1.2] at W1
  have n2 := word_no (T := ⟨#[79, 80, 84, 73, 79, 78, 65, 76]⟩) hs hp (by decide) (by decide)
  have W2 := Lib.hid (fun w1 h1 => word_sc ⟨#[79, 80, 84, 73, 79, 78, 65, 76]⟩ b c p A rs w1 (ascii_of (by decide)) (by decide) h1)
  rw [n2.1, n2.2] at W2
  have n3 := word_no (T := ⟨#[87, 73, 78, 68, 79, 87]⟩) hs hp (by decide) (by decide)
  have W3 := Lib.hid (fun w1 h1 => word_sc ⟨#[87, 73, 78, 68, 79, 87]⟩ b c p A rs w1 (ascii_of (by decide)) (by decide) h1)
  rw [n3.1, n3.2] at W3
  have HN := Lib.hid (fun w1 h1 => nextsign_sc b c p A rs w1 h1)
  rw [hs, hp] at HN
  have HTT := Lib.hid HT
  have HSG := Lib.hid (hg.frF hf)
  clear h hf hx hy hs hp HT hg n0 n1 n2 n3
  go_enter Tryz.func154, Tryz.ntmps154
  go_wp2_with fail
  refine (W0.out _ HS.out).mono ?_
  rintro e w1 ⟨rfl, hs1, hf1⟩
  have hx1 := HX.out.fr hf1 (fun e => by omega)
  have x1 : w1.cell? ⟨w.heap.size, 0, none⟩ = some (.pointer (some ⟨b, 0, none⟩)) := hx1.cell 0
  have HX1 := Lib.hid hx1
  have HY1 := Lib.hid (HY.out.fr hf1 (fun e => by omega))
  have HS1 := Lib.hid hs1
  have HF1 := Lib.hid ((HF.out.mono (T := fun j => j = b) (fun _ _ h => h.elim)).trans' hf1)
  have HSG1 := Lib.hid (HSG.out.frB HS.out.blk (by decide) hf1)
  clear hs1 hf1 hx1
  go_wp2_with fail
  refine (W1.out _ HS1.out).mono ?_
  rintro e w2 ⟨rfl, hs2, hf2⟩
  have hx2 := HX1.out.fr hf2 (fun e => by omega)
  have x2 : w2.cell? ⟨w.heap.size, 0, none⟩ = some (.pointer (some ⟨b, 0, none⟩)) := hx2.cell 0
  have HX2 := Lib.hid hx2
  have HY2 := Lib.hid (HY1.out.fr hf2 (fun e => by omega))
  have HS2 := Lib.hid hs2
  have HF2 := Lib.hid (HF1.out.trans' hf2)
  have HSG2 := Lib.hid (HSG1.out.frB HS1.out.blk (by decide) hf2)
  clear hs2 hf2 hx2 x1
  go_wp2_with fail
  refine (W2.out _ HS2.out).mono ?_
  rintro e w3 ⟨rfl, hs3, hf3⟩
  have hx3 := HX2.out.fr hf3 (fun e => by omega)
  have x3 : w3.cell? ⟨w.heap.size, 0, none⟩ = some (.pointer (some ⟨b, 0, none⟩)) := hx3.cell 0
  have HX3 := Lib.hid hx3
  have HY3 := Lib.hid (HY2.out.fr hf3 (fun e => by omega))
  have HS3 := Lib.hid hs3
  have HF3 := Lib.hid (HF2.out.trans' hf3)
  have HSG3 := Lib.hid (HSG2.out.frB HS2.out.blk (by decide) hf3)
  clear hs3 hf3 hx3 x2
  go_wp2_with fail
  refine (W3.out _ HS3.out).mono ?_
  rintro e w4 ⟨rfl, hs4, hf4⟩
  have hx4 := HX3.out.fr hf4 (fun e => by omega)
  have x4 : w4.cell? ⟨w.heap.size, 0, none⟩ = some (.pointer (some ⟨b, 0, none⟩)) := hx4.cell 0
  have HX4 := Lib.hid hx4
  have HY4 := Lib.hid (HY3.out.fr hf4 (fun e => by omega))
  have HS4 := Lib.hid hs4
  have HF4 := Lib.hid (HF3.out.trans' hf4)
  have HSG4 := Lib.hid (HSG3.out.frB HS3.out.blk (by decide) hf4)
  clear hs4 hf4 hx4 x3
  go_wp2_with fail
  refine (HN.out _ HS4.out).mono ?_
  rintro e w5 ⟨rfl, hs5, hf5⟩
  have hx5 := HX4.out.fr hf5 (fun e => by omega)
  have x5 : w5.cell? ⟨w.heap.size, 0, none⟩ = some (.pointer (some ⟨b, 0, none⟩)) := hx5.cell 0
  have HX5 := Lib.hid hx5
  have HY5 := Lib.hid (HY4.out.fr hf5 (fun e => by omega))
  have HS5 := Lib.hid hs5
  have HF5 := Lib.hid (HF4.out.trans' hf5)
  have HSG5 := Lib.hid (HSG4.out.frB HS4.out.blk (by decide) hf5)
  clear hs5 hf5 hx5 x4
  go_wp2_with fail
  refine (HTT.out _ HSG5.out HS5.out).mono ?_
  rintro e w6 ⟨rfl, hs6, hf6⟩
  have hx6 := HX5.out.fr hf6 (fun e => by omega)
  have x6 : w6.cell? ⟨w.heap.size, 0, none⟩ = some (.pointer (some ⟨b, 0, none⟩)) := hx6.cell 0
  have HX6 := Lib.hid hx6
  have HY6 := Lib.hid (HY5.out.fr hf6 (fun e => by omega))
  have HS6 := Lib.hid hs6
  have HF6 := Lib.hid (HF5.out.trans' hf6)
  clear hs6 hf6 hx6 x5
  have hy7 := HY6.out
  have hst7 := Blk.setAll (vs := [.int .i64 0, .string v1, .nilIface, .string v2, .nilIface, .string v3, .nilIface, .int .i64 0, .string ⟨#[]⟩, .slice none 0 0, .string ⟨#[]⟩, .string ⟨#[]⟩, .nilIface, .slice none 0 0, .string ⟨#[]⟩, .string ⟨#[]⟩, .slice none 0 0]) (old := [.int .i64 0, .string ⟨#[]⟩, .nilIface, .string ⟨#[]⟩, .nilIface, .string ⟨#[]⟩, .nilIface, .int .i64 0, .string ⟨#[]⟩, .slice none 0 0, .string ⟨#[]⟩, .string ⟨#[]⟩, .nilIface, .slice none 0 0, .string ⟨#[]⟩, .string ⟨#[]⟩, .slice none 0 0]) hy7 rfl
  have HTH7 := Lib.hid (Blk.there (cs := [.int .i64 0, .string ⟨#[]⟩, .nilIface, .string ⟨#[]⟩, .nilIface, .string ⟨#[]⟩, .nilIface, .int .i64 0, .string ⟨#[]⟩, .slice none 0 0, .string ⟨#[]⟩, .string ⟨#[]⟩, .nilIface, .slice none 0 0, .string ⟨#[]⟩, .string ⟨#[]⟩, .slice none 0 0]) hy7 (n := 17) rfl)
  have HST7 := Lib.hid hst7.1
  have HSS7 := Lib.hid (HS6.out.fr hst7.2 (fun e => by omega) (fun j hj e => own_blk_ne HS6.out.row hy7 (by decide) (by rw [hj, e])))
  have HFF7 := Lib.hid (HF6.out.trans (T := fun j => j = b ∨ j = w.heap.size + 1) (hst7.2.mono (fun _ _ h => .inr h)) (fun j hj h => h.elim id (fun h => absurd hj (by omega))))
  have HONE7 := Lib.hid (show (#[.int .i64 0, .string v1, .nilIface, .string v2, .nilIface, .string v3, .nilIface, .int .i64 0, .string ⟨#[]⟩, .slice none 0 0, .string ⟨#[]⟩, .string ⟨#[]⟩, .nilIface, .slice none 0 0, .string ⟨#[]⟩, .string ⟨#[]⟩, .slice none 0 0] : Array Value).all (·.oneCell') = true from all_oneCell_toArray (by intro v hv; simp only [List.mem_cons, List.not_mem_nil, or_false] at hv; rcases hv with rfl | rfl | rfl | rfl | rfl | rfl | rfl | rfl | rfl | rfl | rfl | rfl | rfl | rfl | rfl | rfl | rfl <;> rfl))
  have hlt7 := hy7.lt
  clear hy7 hst7
  go_wp2_with (refine wpList_store_mid rfl 46 _ _ rfl _ _ _ rfl rfl HTH7.out inf46 HONE7.out ?_)
  exact bodyPost_ret (v := .agg #[.int .i64 0, .string v1, .nilIface, .string v2, .nilIface, .string v3, .nilIface, .int .i64 0, .string ⟨#[]⟩, .slice none 0 0, .string ⟨#[]⟩, .string ⟨#[]⟩, .nilIface, .slice none 0 0, .string ⟨#[]⟩, .string ⟨#[]⟩, .slice none 0 0]) (results_cell_row rfl _ _ (w.heap.size + 1) 46 _ (0, 0) _ rfl HST7.out Tryz.underlying46 rfl (by kernel_rfl)) rfl ⟨rfl, HSS7.out, HFF7.out⟩

set_option maxRecDepth 100000 in
set_option maxHeartbeats 40000000 in
/-- A group of one triple. -/
theorem group_iri (v1 v2 : ByteArray) (xs : Array Value) (left : Int) (hl : 1 ≤ left) (hl2 : left ≤ 40) (b c p0 p p1 q1 q2 : Nat) (A : Option Addr) (rs : List Int) (w : World) (hs0 : skip rs [0] p0 = p) (hp : peekOf rs p = 123)
    (hne : markAt rs (p + 1) ⟨#[125]⟩ = false ∧ markTo rs (p + 1) ⟨#[125]⟩ = p1)
    (HITM : ∀ w1, Sg w1 → Sc w1 b A c rs p1 → Calls Tryz.prog 154 #[.agg #[.pointer (some ⟨b, 0, none⟩)], .int .i64 (left - 1)] w1 (ScPost w1 b A c rs q1 (.agg #[.int .i64 0, .string v1, .nilIface, .string ⟨#[]⟩, .nilIface, .string ⟨#[]⟩, .iface 78 (.agg xs), .int .i64 0, .string v2, .slice none 0 0, .string ⟨#[]⟩, .string ⟨#[]⟩, .nilIface, .slice none 0 0, .string ⟨#[]⟩, .string ⟨#[]⟩, .slice none 0 0])))
    (hend : markAt rs q1 ⟨#[125]⟩ = true ∧ markTo rs q1 ⟨#[125]⟩ = q2) (hg : Sg w) (h : Sc w b A c rs p0) :
    Calls Tryz.prog 99 #[.agg #[.pointer (some ⟨b, 0, none⟩)], .int .i64 left] w (GrpPostG Flat w b A c rs q2) := by
  obtain ⟨i46, hi46, hz460, hz461, hz462⟩ := info_parts infZ46
  have hf : Fr (fun _ => False) w ((w.alloc (.cells #[.pointer (some ⟨b, 0, none⟩)] 108)).alloc (.cells #[.slice none 0 0] 27)) := ((Fr.refl _ _).alloc _).alloc _
  have hz : (w.alloc (.cells #[.pointer (some ⟨b, 0, none⟩)] 108)).heap.size = w.heap.size + 1 := by simp
  have hy := Blk.new (w.alloc (.cells #[.pointer (some ⟨b, 0, none⟩)] 108)) 27 #[.slice none 0 0]
  rw [hz] at hy
  have HB := Lib.hid (blanks_sc b c p0 A rs _ (h.frF hf))
  rw [hs0] at HB
  clear hs0
  have HP := Lib.hid (fun w1 h1 => place_sc b c p A rs w1 h1)
  have y1 := mark_yes (x := 123) (skip_open hp) hp
  have HM := Lib.hid (fun w1 h1 => must_sc ⟨#[123]⟩ b c p (p + 1) A rs w1 (ascii_of (by decide)) (by decide) y1.1 y1.2 h1)
  have HE1 := Lib.hid (fun w1 h1 => mark_sc ⟨#[125]⟩ b c (p + 1) A rs w1 (ascii_of (by decide)) (by decide) h1)
  rw [hne.1, hne.2] at HE1
  have HE2 := Lib.hid (fun w1 h1 => mark_sc ⟨#[125]⟩ b c q1 A rs w1 (ascii_of (by decide)) (by decide) h1)
  rw [hend.1, hend.2] at HE2
  have HIT := Lib.hid HITM
  have HSG := Lib.hid (hg.frF hf)
  have HX := Lib.hid ((Blk.new w 108 #[.pointer (some ⟨b, 0, none⟩)]).alloc (.cells #[.slice none 0 0] 27))
  have HY := Lib.hid hy
  have HF := Lib.hid hf
  have hbl := h.blk.lt
  have h0 := h
  have hl' : (left == 0) = false := by simp; omega
  have hlw : IntKind.i64.wrap (left - 1) = left - 1 := IntWalk.i64_in _ (by omega)
  clear h hf hy hz hp y1 hne hend HITM hg
  go_enter Tryz.func99, Tryz.ntmps99
  go_wp2_with fail
  refine HB.out.mono ?_
  rintro e w1 ⟨⟨k, rfl⟩, hs1, hf1⟩
  have hx1 := box_keep HX.out hbl hf1
  have x1 : w1.cell? ⟨w.heap.size, 0, none⟩ = some (.pointer (some ⟨b, 0, none⟩)) := hx1.cell 0
  have HX1 := Lib.hid hx1
  have HY1 := Lib.hid (old_keep HY.out (Nat.le_succ _) hbl hf1)
  have HF1 := Lib.hid ((HF.out.mono (T := fun j => j = b) (fun _ _ h => h.elim)).trans' hf1)
  have HSG1 := Lib.hid (HSG.out.frB (h0.frF HF.out).blk (by decide) hf1)
  have HPP := Lib.hid (HP.out w1 hs1)
  have HMM := Lib.hid (HM.out w1 hs1)
  clear hx1 hf1 h0
  have HS1 := Lib.hid hs1
  clear hs1
  go_wp2_with fail
  refine HPP.out.mono ?_
  rintro e w1' ⟨rfl, rfl⟩
  go_wp2_with fail
  refine HMM.out.mono ?_
  rintro e w2 ⟨rfl, hs2, hf2⟩
  have hsg2 := HSG1.out.frB HS1.out.blk (by decide) hf2
  have hf3 : Fr (fun _ => False) w2 (w2.alloc (.cells #[.slice none 0 0] 27)) := (Fr.refl _ _).alloc _
  have HX3 := Lib.hid ((box_keep HX1.out hbl hf2).fr hf3 (fun h => h))
  have HY3 := Lib.hid ((old_keep HY1.out (Nat.le_succ _) hbl hf2).fr hf3 (fun h => h))
  have HO3 := Lib.hid (Blk.new w2 27 #[.slice none 0 0])
  have HF3 := Lib.hid ((HF1.out.trans' hf2).trans hf3 (fun _ _ h => h.elim))
  have HS3 := Lib.hid (hs2.frF hf3)
  have HSG3 := Lib.hid (hsg2.frF hf3)
  have hly := (old_keep HY1.out (Nat.le_succ _) hbl hf2).lt
  clear hs2 hf2 hf3 x1 hsg2
  go_wp2_with fail
  go_loopg [20] (1) (fun g _ wr => (g = 1 ∧ w2.alloc (.cells #[.slice none 0 0] 27) = wr) ∨ (∃ gg cap, Sc wr b A c rs q1 ∧ Blk wr w2.heap.size 27 #[.slice (some ⟨gg, 0, none⟩) 1 cap] ∧ Blk wr w.heap.size 108 #[.pointer (some ⟨b, 0, none⟩)] ∧ Blk wr (w.heap.size + 1) 27 #[.slice none 0 0] ∧ Fr (fun j => j = b) w wr))
  case atStart => exact .inl ⟨rfl, rfl⟩
  case round =>
    rcases hrel with ⟨rfl, rfl⟩ | ⟨gg, cap, hs, ho, hx, hyy, hfr⟩
    · have x3 : (w2.alloc (.cells #[.slice none 0 0] 27)).cell? ⟨w.heap.size, 0, none⟩ = some (.pointer (some ⟨b, 0, none⟩)) := HX3.out.cell 0
      have HEE := Lib.hid (HE1.out _ HS3.out)
      generalize w2.alloc (.cells #[.slice none 0 0] 27) = w3 at *
      go_wp2_with fail
      refine HEE.out.mono ?_
      rintro e w4 ⟨rfl, hs4, hf4⟩
      have hx4 := box_keep HX3.out hbl hf4
      have x4 : w4.cell? ⟨w.heap.size, 0, none⟩ = some (.pointer (some ⟨b, 0, none⟩)) := hx4.cell 0
      have hb2 : b < w2.heap.size := by omega
      have ho4 := HO3.out.fr hf4 (fun e => by omega)
      have o4 : w4.cell? ⟨w2.heap.size, 0, none⟩ = some (.slice none 0 0) := ho4.cell 0
      have HO4 := Lib.hid ho4
      have HX4 := Lib.hid hx4
      have HSG4 := Lib.hid (HSG3.out.frB HS3.out.blk (by decide) hf4)
      have HY4 := Lib.hid (old_keep HY3.out (Nat.le_succ _) hbl hf4)
      have HF4 := Lib.hid (HF3.out.trans' hf4)
      have HS4 := Lib.hid hs4
      have hs4z : w2.heap.size < w4.heap.size := ho4.lt
      have hws : w.heap.size ≤ w4.heap.size := HF4.out.size
      unfold ScPost at HIT
      clear hx4 hs4 hf4 x3 ho4
      go_wp2_with fail
      go_region_law (first
        | (go_simp; go_at_call 154; refine (HIT.out _ (HSG4.out.frF (by repeat' (first | exact Fr.refl _ _ | refine Fr.drew ?_))) (HS4.out.frF (by repeat' (first | exact Fr.refl _ _ | refine Fr.drew ?_)))).mono ?_; rintro e w6 ⟨rfl, hs6, hf6⟩; have F6 : Fr (fun j => j = b) w4 w6 := Fr.trans' (by repeat' (first | exact Fr.refl _ _ | refine Fr.drew ?_)) hf6; have ho6 := HO4.out.fr F6 (fun e => by omega); have o6 : w6.cell? ⟨w2.heap.size, 0, none⟩ = some (.slice none 0 0) := ho6.cell 0; have l6 := ho6.lt)
        | (refine step_append_lies _ (by rfl) _ _ 25 (by rfl) (w.heap.size + 2) 46 i46 _ 17 280 Tryz.underlying25 hi46 hz460 hz461 hz462 rfl (by decide) (.slice none 0 0) 0 [] (by rfl) (World.ownsRow_nil _ _ _ _) _ 1 1 [.int .i64 0, .string v1, .nilIface, .string ⟨#[]⟩, .nilIface, .string ⟨#[]⟩, .iface 78 (.agg xs), .int .i64 0, .string v2, .slice none 0 0, .string ⟨#[]⟩, .string ⟨#[]⟩, .nilIface, .slice none 0 0, .string ⟨#[]⟩, .string ⟨#[]⟩, .slice none 0 0] (by rfl) rfl (World.news_of_block (heap_alloc_new w6 _)) (by intro u hu; simp only [List.mem_cons, List.not_mem_nil, or_false] at hu; rcases hu with rfl | rfl | rfl | rfl | rfl | rfl | rfl | rfl | rfl | rfl | rfl | rfl | rfl | rfl | rfl | rfl | rfl <;> rfl) (by decide) (by unfold maxLen; omega) (by omega) (by have := F6.size; simp; omega) _ rfl ?_; intro g8 cap w8 hown8 hgr8 hor8 hlt8; rw [Nat.zero_add, List.nil_append] at hown8; have HPU := Lib.hid (flat_push (gg := g8) (cap := cap) hs6 ho6 hgr8); have ho8 := (ho6.fr (((Fr.refl (fun _ => False) w6).alloc _).trans (Fr.of_grown hgr8) (fun _ _ h => by cases h)) (fun h => h)); have o8 := ho8.cell 0; have f8 := ho8.frozen 0; have l8 := ho8.lt))
      all_goals
        have HX8 := Lib.hid ((box_keep HX4.out hbl F6).fr HPU.out.2 (fun e => by omega))
        have HY8 := Lib.hid ((old_keep HY4.out (Nat.le_succ _) hbl F6).fr HPU.out.2 (fun e => by omega))
        have HF8 := Lib.hid ((HF4.out.trans' F6).trans HPU.out.2 (fun j hj e => absurd hj (by omega)))
        clear hs6 hf6 F6 ho6 o6 l6 hown8 hgr8 hor8 hlt8 ho8 o8 f8 l8
        go_wp2_with fail
        go_roundg (0)
        case measure => omega
        case rel => exact .inr ⟨_, _, HPU.out.1.1, HPU.out.1.2, HX8.out, HY8.out, HF8.out⟩
    · have x0 : wr.cell? ⟨w.heap.size, 0, none⟩ = some (.pointer (some ⟨b, 0, none⟩)) := hx.cell 0
      have HEE := Lib.hid (HE2.out _ hs)
      have HS := Lib.hid hs
      have HO := Lib.hid ho
      have HYY := Lib.hid hyy
      have HFR := Lib.hid hfr
      clear hs ho hx hyy hfr
      go_wp2_with fail
      refine HEE.out.mono ?_
      rintro e w4 ⟨rfl, hs4, hf4⟩
      have ho4 := HO.out.fr hf4 (fun e => Blk.ne_ HO.out HS.out.blk (by decide) e)
      have o4 : w4.cell? ⟨w2.heap.size, 0, none⟩ = some (.slice (some ⟨gg, 0, none⟩) 1 cap) := ho4.cell 0
      have hy4 := old_keep HYY.out (Nat.le_succ _) hbl hf4
      have yc : w4.cell? ⟨w.heap.size + 1, 0, none⟩ = some (.slice none 0 0) := hy4.cell 0
      have yf := hy4.frozen 0
      have yl := hy4.lt
      have FS : Fr (fun j => j = w.heap.size + 1) w4 (w4.setCell ⟨w.heap.size + 1, 0, none⟩ (.slice (some ⟨gg, 0, none⟩) 1 cap)) := (Fr.refl (fun j => j = w.heap.size + 1) w4).setCell ⟨w.heap.size + 1, 0, none⟩ (fun _ => rfl) _
      have HY5 := Lib.hid (show Blk (w4.setCell ⟨w.heap.size + 1, 0, none⟩ (.slice (some ⟨gg, 0, none⟩) 1 cap)) (w.heap.size + 1) 27 #[.slice (some ⟨gg, 0, none⟩) 1 cap] from hy4.set_ 0 (.slice (some ⟨gg, 0, none⟩) 1 cap))
      have HS5 := Lib.hid (hs4.fr FS (fun e => by omega) (fun j hj e => own_blk_ne hs4.row hy4 (by decide) (by rw [hj, e])))
      have HF5 := Lib.hid ((HFR.out.trans' hf4).trans (T := fun j => j = b ∨ j = w.heap.size + 1) (FS.mono (fun _ _ h => .inr h)) (fun j hj h => h.elim id (fun h => absurd hj (by omega))))
      clear hs4 hf4 ho4 hy4 FS
      go_wp2_with fail
      exact bodyPost_ret (v := .agg #[.slice (some ⟨gg, 0, none⟩) 1 cap]) (results_cell_row rfl _ _ (w.heap.size + 1) 27 _ (0, 0) _ rfl HY5.out Tryz.underlying27 rfl (by kernel_rfl)) rfl ⟨_, rfl, ⟨_, _, rfl⟩, HS5.out, HF5.out⟩


set_option maxRecDepth 100000 in
set_option maxHeartbeats 40000000 in
/-- A group of one triple. -/
theorem group_var (v1 v2 v3 : ByteArray) (left : Int) (hl : 1 ≤ left) (hl2 : left ≤ 40) (b c p0 p p1 q1 q2 : Nat) (A : Option Addr) (rs : List Int) (w : World) (hs0 : skip rs [0] p0 = p) (hp : peekOf rs p = 123)
    (hne : markAt rs (p + 1) ⟨#[125]⟩ = false ∧ markTo rs (p + 1) ⟨#[125]⟩ = p1)
    (HITM : ∀ w1, Sg w1 → Sc w1 b A c rs p1 → Calls Tryz.prog 154 #[.agg #[.pointer (some ⟨b, 0, none⟩)], .int .i64 (left - 1)] w1 (ScPost w1 b A c rs q1 (.agg #[.int .i64 0, .string v1, .nilIface, .string v2, .nilIface, .string v3, .nilIface, .int .i64 0, .string ⟨#[]⟩, .slice none 0 0, .string ⟨#[]⟩, .string ⟨#[]⟩, .nilIface, .slice none 0 0, .string ⟨#[]⟩, .string ⟨#[]⟩, .slice none 0 0])))
    (hend : markAt rs q1 ⟨#[125]⟩ = true ∧ markTo rs q1 ⟨#[125]⟩ = q2) (hg : Sg w) (h : Sc w b A c rs p0) :
    Calls Tryz.prog 99 #[.agg #[.pointer (some ⟨b, 0, none⟩)], .int .i64 left] w (GrpPostG Flat w b A c rs q2) := by
  obtain ⟨i46, hi46, hz460, hz461, hz462⟩ := info_parts infZ46
  have hf : Fr (fun _ => False) w ((w.alloc (.cells #[.pointer (some ⟨b, 0, none⟩)] 108)).alloc (.cells #[.slice none 0 0] 27)) := ((Fr.refl _ _).alloc _).alloc _
  have hz : (w.alloc (.cells #[.pointer (some ⟨b, 0, none⟩)] 108)).heap.size = w.heap.size + 1 := by simp
  have hy := Blk.new (w.alloc (.cells #[.pointer (some ⟨b, 0, none⟩)] 108)) 27 #[.slice none 0 0]
  rw [hz] at hy
  have HB := Lib.hid (blanks_sc b c p0 A rs _ (h.frF hf))
  rw [hs0] at HB
  clear hs0
  have HP := Lib.hid (fun w1 h1 => place_sc b c p A rs w1 h1)
  have y1 := mark_yes (x := 123) (skip_open hp) hp
  have HM := Lib.hid (fun w1 h1 => must_sc ⟨#[123]⟩ b c p (p + 1) A rs w1 (ascii_of (by decide)) (by decide) y1.1 y1.2 h1)
  have HE1 := Lib.hid (fun w1 h1 => mark_sc ⟨#[125]⟩ b c (p + 1) A rs w1 (ascii_of (by decide)) (by decide) h1)
  rw [hne.1, hne.2] at HE1
  have HE2 := Lib.hid (fun w1 h1 => mark_sc ⟨#[125]⟩ b c q1 A rs w1 (ascii_of (by decide)) (by decide) h1)
  rw [hend.1, hend.2] at HE2
  have HIT := Lib.hid HITM
  have HSG := Lib.hid (hg.frF hf)
  have HX := Lib.hid ((Blk.new w 108 #[.pointer (some ⟨b, 0, none⟩)]).alloc (.cells #[.slice none 0 0] 27))
  have HY := Lib.hid hy
  have HF := Lib.hid hf
  have hbl := h.blk.lt
  have h0 := h
  have hl' : (left == 0) = false := by simp; omega
  have hlw : IntKind.i64.wrap (left - 1) = left - 1 := IntWalk.i64_in _ (by omega)
  clear h hf hy hz hp y1 hne hend HITM hg
  go_enter Tryz.func99, Tryz.ntmps99
  go_wp2_with fail
  refine HB.out.mono ?_
  rintro e w1 ⟨⟨k, rfl⟩, hs1, hf1⟩
  have hx1 := box_keep HX.out hbl hf1
  have x1 : w1.cell? ⟨w.heap.size, 0, none⟩ = some (.pointer (some ⟨b, 0, none⟩)) := hx1.cell 0
  have HX1 := Lib.hid hx1
  have HY1 := Lib.hid (old_keep HY.out (Nat.le_succ _) hbl hf1)
  have HF1 := Lib.hid ((HF.out.mono (T := fun j => j = b) (fun _ _ h => h.elim)).trans' hf1)
  have HSG1 := Lib.hid (HSG.out.frB (h0.frF HF.out).blk (by decide) hf1)
  have HPP := Lib.hid (HP.out w1 hs1)
  have HMM := Lib.hid (HM.out w1 hs1)
  clear hx1 hf1 h0
  have HS1 := Lib.hid hs1
  clear hs1
  go_wp2_with fail
  refine HPP.out.mono ?_
  rintro e w1' ⟨rfl, rfl⟩
  go_wp2_with fail
  refine HMM.out.mono ?_
  rintro e w2 ⟨rfl, hs2, hf2⟩
  have hsg2 := HSG1.out.frB HS1.out.blk (by decide) hf2
  have hf3 : Fr (fun _ => False) w2 (w2.alloc (.cells #[.slice none 0 0] 27)) := (Fr.refl _ _).alloc _
  have HX3 := Lib.hid ((box_keep HX1.out hbl hf2).fr hf3 (fun h => h))
  have HY3 := Lib.hid ((old_keep HY1.out (Nat.le_succ _) hbl hf2).fr hf3 (fun h => h))
  have HO3 := Lib.hid (Blk.new w2 27 #[.slice none 0 0])
  have HF3 := Lib.hid ((HF1.out.trans' hf2).trans hf3 (fun _ _ h => h.elim))
  have HS3 := Lib.hid (hs2.frF hf3)
  have HSG3 := Lib.hid (hsg2.frF hf3)
  have hly := (old_keep HY1.out (Nat.le_succ _) hbl hf2).lt
  clear hs2 hf2 hf3 x1 hsg2
  go_wp2_with fail
  go_loopg [20] (1) (fun g _ wr => (g = 1 ∧ w2.alloc (.cells #[.slice none 0 0] 27) = wr) ∨ (∃ gg cap, Sc wr b A c rs q1 ∧ Blk wr w2.heap.size 27 #[.slice (some ⟨gg, 0, none⟩) 1 cap] ∧ Blk wr w.heap.size 108 #[.pointer (some ⟨b, 0, none⟩)] ∧ Blk wr (w.heap.size + 1) 27 #[.slice none 0 0] ∧ Fr (fun j => j = b) w wr))
  case atStart => exact .inl ⟨rfl, rfl⟩
  case round =>
    rcases hrel with ⟨rfl, rfl⟩ | ⟨gg, cap, hs, ho, hx, hyy, hfr⟩
    · have x3 : (w2.alloc (.cells #[.slice none 0 0] 27)).cell? ⟨w.heap.size, 0, none⟩ = some (.pointer (some ⟨b, 0, none⟩)) := HX3.out.cell 0
      have HEE := Lib.hid (HE1.out _ HS3.out)
      generalize w2.alloc (.cells #[.slice none 0 0] 27) = w3 at *
      go_wp2_with fail
      refine HEE.out.mono ?_
      rintro e w4 ⟨rfl, hs4, hf4⟩
      have hx4 := box_keep HX3.out hbl hf4
      have x4 : w4.cell? ⟨w.heap.size, 0, none⟩ = some (.pointer (some ⟨b, 0, none⟩)) := hx4.cell 0
      have hb2 : b < w2.heap.size := by omega
      have ho4 := HO3.out.fr hf4 (fun e => by omega)
      have o4 : w4.cell? ⟨w2.heap.size, 0, none⟩ = some (.slice none 0 0) := ho4.cell 0
      have HO4 := Lib.hid ho4
      have HX4 := Lib.hid hx4
      have HSG4 := Lib.hid (HSG3.out.frB HS3.out.blk (by decide) hf4)
      have HY4 := Lib.hid (old_keep HY3.out (Nat.le_succ _) hbl hf4)
      have HF4 := Lib.hid (HF3.out.trans' hf4)
      have HS4 := Lib.hid hs4
      have hs4z : w2.heap.size < w4.heap.size := ho4.lt
      have hws : w.heap.size ≤ w4.heap.size := HF4.out.size
      unfold ScPost at HIT
      clear hx4 hs4 hf4 x3 ho4
      go_wp2_with fail
      go_region_law (first
        | (go_simp; go_at_call 154; refine (HIT.out _ (HSG4.out.frF (by repeat' (first | exact Fr.refl _ _ | refine Fr.drew ?_))) (HS4.out.frF (by repeat' (first | exact Fr.refl _ _ | refine Fr.drew ?_)))).mono ?_; rintro e w6 ⟨rfl, hs6, hf6⟩; have F6 : Fr (fun j => j = b) w4 w6 := Fr.trans' (by repeat' (first | exact Fr.refl _ _ | refine Fr.drew ?_)) hf6; have ho6 := HO4.out.fr F6 (fun e => by omega); have o6 : w6.cell? ⟨w2.heap.size, 0, none⟩ = some (.slice none 0 0) := ho6.cell 0; have l6 := ho6.lt)
        | (refine step_append_lies _ (by rfl) _ _ 25 (by rfl) (w.heap.size + 2) 46 i46 _ 17 280 Tryz.underlying25 hi46 hz460 hz461 hz462 rfl (by decide) (.slice none 0 0) 0 [] (by rfl) (World.ownsRow_nil _ _ _ _) _ 1 1 [.int .i64 0, .string v1, .nilIface, .string v2, .nilIface, .string v3, .nilIface, .int .i64 0, .string ⟨#[]⟩, .slice none 0 0, .string ⟨#[]⟩, .string ⟨#[]⟩, .nilIface, .slice none 0 0, .string ⟨#[]⟩, .string ⟨#[]⟩, .slice none 0 0] (by rfl) rfl (World.news_of_block (heap_alloc_new w6 _)) (by intro u hu; simp only [List.mem_cons, List.not_mem_nil, or_false] at hu; rcases hu with rfl | rfl | rfl | rfl | rfl | rfl | rfl | rfl | rfl | rfl | rfl | rfl | rfl | rfl | rfl | rfl | rfl <;> rfl) (by decide) (by unfold maxLen; omega) (by omega) (by have := F6.size; simp; omega) _ rfl ?_; intro g8 cap w8 hown8 hgr8 hor8 hlt8; rw [Nat.zero_add, List.nil_append] at hown8; have HPU := Lib.hid (flat_push (gg := g8) (cap := cap) hs6 ho6 hgr8); have ho8 := (ho6.fr (((Fr.refl (fun _ => False) w6).alloc _).trans (Fr.of_grown hgr8) (fun _ _ h => by cases h)) (fun h => h)); have o8 := ho8.cell 0; have f8 := ho8.frozen 0; have l8 := ho8.lt))
      all_goals
        have HX8 := Lib.hid ((box_keep HX4.out hbl F6).fr HPU.out.2 (fun e => by omega))
        have HY8 := Lib.hid ((old_keep HY4.out (Nat.le_succ _) hbl F6).fr HPU.out.2 (fun e => by omega))
        have HF8 := Lib.hid ((HF4.out.trans' F6).trans HPU.out.2 (fun j hj e => absurd hj (by omega)))
        clear hs6 hf6 F6 ho6 o6 l6 hown8 hgr8 hor8 hlt8 ho8 o8 f8 l8
        go_wp2_with fail
        go_roundg (0)
        case measure => omega
        case rel => exact .inr ⟨_, _, HPU.out.1.1, HPU.out.1.2, HX8.out, HY8.out, HF8.out⟩
    · have x0 : wr.cell? ⟨w.heap.size, 0, none⟩ = some (.pointer (some ⟨b, 0, none⟩)) := hx.cell 0
      have HEE := Lib.hid (HE2.out _ hs)
      have HS := Lib.hid hs
      have HO := Lib.hid ho
      have HYY := Lib.hid hyy
      have HFR := Lib.hid hfr
      clear hs ho hx hyy hfr
      go_wp2_with fail
      refine HEE.out.mono ?_
      rintro e w4 ⟨rfl, hs4, hf4⟩
      have ho4 := HO.out.fr hf4 (fun e => Blk.ne_ HO.out HS.out.blk (by decide) e)
      have o4 : w4.cell? ⟨w2.heap.size, 0, none⟩ = some (.slice (some ⟨gg, 0, none⟩) 1 cap) := ho4.cell 0
      have hy4 := old_keep HYY.out (Nat.le_succ _) hbl hf4
      have yc : w4.cell? ⟨w.heap.size + 1, 0, none⟩ = some (.slice none 0 0) := hy4.cell 0
      have yf := hy4.frozen 0
      have yl := hy4.lt
      have FS : Fr (fun j => j = w.heap.size + 1) w4 (w4.setCell ⟨w.heap.size + 1, 0, none⟩ (.slice (some ⟨gg, 0, none⟩) 1 cap)) := (Fr.refl (fun j => j = w.heap.size + 1) w4).setCell ⟨w.heap.size + 1, 0, none⟩ (fun _ => rfl) _
      have HY5 := Lib.hid (show Blk (w4.setCell ⟨w.heap.size + 1, 0, none⟩ (.slice (some ⟨gg, 0, none⟩) 1 cap)) (w.heap.size + 1) 27 #[.slice (some ⟨gg, 0, none⟩) 1 cap] from hy4.set_ 0 (.slice (some ⟨gg, 0, none⟩) 1 cap))
      have HS5 := Lib.hid (hs4.fr FS (fun e => by omega) (fun j hj e => own_blk_ne hs4.row hy4 (by decide) (by rw [hj, e])))
      have HF5 := Lib.hid ((HFR.out.trans' hf4).trans (T := fun j => j = b ∨ j = w.heap.size + 1) (FS.mono (fun _ _ h => .inr h)) (fun j hj h => h.elim id (fun h => absurd hj (by omega))))
      clear hs4 hf4 ho4 hy4 FS
      go_wp2_with fail
      exact bodyPost_ret (v := .agg #[.slice (some ⟨gg, 0, none⟩) 1 cap]) (results_cell_row rfl _ _ (w.heap.size + 1) 27 _ (0, 0) _ rfl HY5.out Tryz.underlying27 rfl (by kernel_rfl)) rfl ⟨_, rfl, ⟨_, _, rfl⟩, HS5.out, HF5.out⟩


end Go.Proofs.YtebddgdkndmpjaaGreatDoor
