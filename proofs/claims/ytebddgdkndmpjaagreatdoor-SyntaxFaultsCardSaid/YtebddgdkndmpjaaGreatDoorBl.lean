/- Groups in groups, parsed: walked. -/
import Derived.Test.YtebddgdkndmpjaaGreatDoorBk
import Derived.Deep.CutBlock
import Derived.Deep.RegionLawGrows
import Derived.Deep.Cut
import Derived.Deep.CutRange
import Derived.WalkKit
import Derived.WalkLawsBesides
import Derived.WalkSpells
import Derived.Deep.QuietTactic
import Derived.BigRegion
import Derived.BigQuiet
import Derived.Lib.Hide
import Derived.Outline
import Derived.Deep.AppendLies
import Derived.Deep.RegionLaw
import Derived.Deep.RegionWith
import Derived.Deep.RegionHeld3
import Derived.Deep.LoopGhost
import Derived.Deep.DeepFit
import Derived.Laws.ResultCell
import Derived.Laws.RangeAny
import Derived.Deep.MidRow
import Derived.StillTailTactics
import Derived.OpenShut
namespace Go.Proofs.YtebddgdkndmpjaaGreatDoor
set_option linter.unusedVariables false
open Go.RowKit Go

def GrpPost (w : World) (b : Nat) (A : Option Addr) (c : Nat) (rs : List Int) (q d : Nat) (e : Ending) (w' : World) : Prop :=
  ∃ v, e = .returned (.agg #[v]) ∧ GroupAt w' w.heap.size d v ∧ Sc w' b A c rs q ∧ Fr (fun j => j = b) w w'
/-- A group of so many is parsed. -/
def GroupOk (left : Int) (d : Nat) : Prop := ∀ (b c p0 p q : Nat) (A : Option Addr) (rs : List Int) (w : World), skip rs [0] p0 = p → Nest rs d p q → Sc w b A c rs p0 → Calls Tryz.prog 99 #[.agg #[.pointer (some ⟨b, 0, none⟩)], .int .i64 left] w (GrpPost w b A c rs q d)
def GrpsPost (w : World) (b : Nat) (A : Option Addr) (c : Nat) (rs : List Int) (q d : Nat) (e : Ending) (w' : World) : Prop :=
  ∃ gv v', e = .returned gv ∧ w'.ownsRow w.heap.size 27 1 gv 1 [v'] ∧ GroupAt w' w.heap.size d v' ∧ Sc w' b A c rs q ∧ Fr (fun j => j = b) w w'

set_option maxRecDepth 100000 in
set_option maxHeartbeats 4000000 in
theorem groups_sc (left : Int) (d : Nat) (HG : GroupOk left d) (b c p q : Nat) (A : Option Addr) (rs : List Int) (w : World) (hn : Nest rs d p q) (hq : peekOf rs q = 125) (h : Sc w b A c rs p) :
    Calls Tryz.prog 210 #[.agg #[.pointer (some ⟨b, 0, none⟩)], .int .i64 left, .string ⟨#[85, 78, 73, 79, 78]⟩] w (GrpsPost w b A c rs q d) := by
  have hf : Fr (fun _ => False) w (w.alloc (.cells #[.pointer (some ⟨b, 0, none⟩)] 108)) := (Fr.refl _ _).alloc _
  have HGR := Lib.hid (HG b c p p q A rs _ (skip_open hn.head) hn (h.frF hf))
  have hno := word_no (T := ⟨#[85, 78, 73, 79, 78]⟩) (skip_shut hq) hq (by decide) (by decide)
  have HW := Lib.hid (fun w1 h1 => word_sc ⟨#[85, 78, 73, 79, 78]⟩ b c q A rs w1 (ascii_of (by decide)) (by decide) h1)
  rw [hno.1, hno.2] at HW
  have HX := Lib.hid (Blk.new w 108 #[.pointer (some ⟨b, 0, none⟩)])
  have HF := Lib.hid hf
  have hbl := h.blk.lt
  clear h hf hn hq hno HG
  go_enter Tryz.func210, Tryz.ntmps210
  go_wp2_with fail
  refine HGR.out.mono ?_
  rintro e w1 ⟨v, rfl, hg1, hs1, hf1⟩
  obtain ⟨A1, n1, c1, rfl⟩ := hg1.slice
  have hf2 : Fr (fun _ => False) w1 (w1.alloc (.cells #[.slice A1 n1 c1] 27)) := (Fr.refl _ _).alloc _
  have hx1 := box_keep HX.out hbl hf1
  have hsz := HF.out.size
  have hsz1 := hf1.size
  have HX2 := Lib.hid (hx1.fr hf2 (fun h => h))
  have HS2 := Lib.hid (hs1.frF hf2)
  have HG2 := Lib.hid ((hg1.frF hf2).base hsz)
  have HR2 := Lib.hid (World.ownsRow_lit (base := w.heap.size) (e := 27) (size := 1) w1 #[.slice A1 n1 c1] 1 (Nat.le_trans hsz hsz1) (by decide) rfl)
  have HF2 := Lib.hid (((HF.out.mono (T := fun j => j = b) (fun _ _ h => h.elim)).trans' hf1).trans hf2 (fun _ _ h => h.elim))
  clear hg1 hs1 hf1 hf2 hx1
  go_wp2_with fail
  go_loopw [7] (fun v wr => v = .slice (some ⟨w1.heap.size, 0, none⟩) 1 1 ∧ w1.alloc (.cells #[.slice A1 n1 c1] 27) = wr) (fun _ _ => 0)
  case atStart => exact ⟨rfl, rfl⟩
  case round =>
    obtain ⟨rfl, rfl⟩ := hrel
    have x2 : (w1.alloc (.cells #[.slice A1 n1 c1] 27)).cell? ⟨w.heap.size, 0, none⟩ = some (.pointer (some ⟨b, 0, none⟩)) := HX2.out.cell 0
    have HWW := Lib.hid (HW.out _ HS2.out)
    have hlt := HX2.out.lt
    have hlt1 : w.heap.size < w1.heap.size := by simp at hsz1; omega
    have x1 : w1.cell? ⟨w.heap.size, 0, none⟩ = some (.pointer (some ⟨b, 0, none⟩)) := by
      have := x2
      rw [World.cell?_of_block (Below.heap_alloc w1 _ _ hlt1)] at this
      exact this
    go_wp2_with fail
    refine HWW.out.mono ?_
    rintro e w3 ⟨rfl, hs3, hf3⟩
    have hr3 := ownsRow_fr HR2.out hf3 (fun j hj e => own_blk_ne HR2.out HS2.out.blk (by decide) (by rw [hj, e]))
    have hg3 := HG2.out.frB HS2.out.blk (by decide) (by decide) hf3
    go_wp2_with fail
    go_ret
    exact ⟨_, _, rfl, hr3, hg3, hs3, HF2.out.trans' hf3⟩

theorem unionL_one (gv : Value) (h : gv.oneCell' = true) : (unionL gv).toArray.all (·.oneCell') = true := all_oneCell_toArray (by
  intro v hv
  unfold unionL at hv
  simp only [List.mem_cons, List.not_mem_nil, or_false] at hv
  rcases hv with rfl | rfl | rfl | rfl | rfl | rfl | rfl | rfl | rfl | rfl | rfl | rfl | rfl | rfl | rfl | rfl | rfl
  all_goals first | rfl | exact h)

/-- An item of nothing. -/
def zero46 : List Value := [.int .i64 0, .string ⟨#[]⟩, .nilIface, .string ⟨#[]⟩, .nilIface, .string ⟨#[]⟩, .nilIface, .int .i64 0, .string ⟨#[]⟩, .slice none 0 0, .string ⟨#[]⟩, .string ⟨#[]⟩, .nilIface, .slice none 0 0, .string ⟨#[]⟩, .string ⟨#[]⟩, .slice none 0 0]
def ItemPost (w : World) (b : Nat) (A : Option Addr) (c : Nat) (rs : List Int) (q d : Nat) (e : Ending) (w' : World) : Prop :=
  ∃ gv v', e = .returned (.agg (unionL gv).toArray) ∧ w'.ownsRow w.heap.size 27 1 gv 1 [v'] ∧ GroupAt w' w.heap.size d v' ∧ Sc w' b A c rs q ∧ Fr (fun j => j = b) w w'

theorem old_keep {w0 w w' : World} {b g t : Nat} {cs : Array Value} (h : Blk w g t cs) (hg : w0.heap.size ≤ g) (hb : b < w0.heap.size) (hf : Fr (fun j => j = b) w w') : Blk w' g t cs := h.fr hf (fun e => by omega)

set_option maxRecDepth 100000 in
set_option maxHeartbeats 40000000 in
theorem item_sc (left : Int) (d : Nat) (HG : GroupOk left d) (b c p q : Nat) (A : Option Addr) (rs : List Int) (w : World) (hn : Nest rs d p q) (hq : peekOf rs q = 125) (h : Sc w b A c rs p) :
    Calls Tryz.prog 154 #[.agg #[.pointer (some ⟨b, 0, none⟩)], .int .i64 left] w (ItemPost w b A c rs q d) := by
  have hp := hn.head
  have n1 := word_no (T := ⟨#[70, 73, 76, 84, 69, 82]⟩) (skip_open hp) hp (by decide) (by decide)
  have n2 := word_no (T := ⟨#[66, 73, 78, 68]⟩) (skip_open hp) hp (by decide) (by decide)
  have n3 := word_no (T := ⟨#[79, 80, 84, 73, 79, 78, 65, 76]⟩) (skip_open hp) hp (by decide) (by decide)
  have n4 := word_no (T := ⟨#[87, 73, 78, 68, 79, 87]⟩) (skip_open hp) hp (by decide) (by decide)
  have W1 := Lib.hid (fun w1 h1 => word_sc ⟨#[70, 73, 76, 84, 69, 82]⟩ b c p A rs w1 (ascii_of (by decide)) (by decide) h1)
  have W2 := Lib.hid (fun w1 h1 => word_sc ⟨#[66, 73, 78, 68]⟩ b c p A rs w1 (ascii_of (by decide)) (by decide) h1)
  have W3 := Lib.hid (fun w1 h1 => word_sc ⟨#[79, 80, 84, 73, 79, 78, 65, 76]⟩ b c p A rs w1 (ascii_of (by decide)) (by decide) h1)
  have W4 := Lib.hid (fun w1 h1 => word_sc ⟨#[87, 73, 78, 68, 79, 87]⟩ b c p A rs w1 (ascii_of (by decide)) (by decide) h1)
  rw [n1.1, n1.2] at W1
  rw [n2.1, n2.2] at W2
  rw [n3.1, n3.2] at W3
  rw [n4.1, n4.2] at W4
  have HN := Lib.hid (fun w1 h1 => nextsign_sc b c p A rs w1 h1)
  rw [skip_open hp, hp] at HN
  have HGS := Lib.hid (fun w1 h1 => groups_sc left d HG b c p q A rs w1 hn hq h1)
  have hf : Fr (fun _ => False) w ((w.alloc (.cells #[.pointer (some ⟨b, 0, none⟩)] 108)).alloc (.cells zero46.toArray 46)) := ((Fr.refl _ _).alloc _).alloc _
  have hz : (w.alloc (.cells #[.pointer (some ⟨b, 0, none⟩)] 108)).heap.size = w.heap.size + 1 := by simp
  have hy := Blk.new (w.alloc (.cells #[.pointer (some ⟨b, 0, none⟩)] 108)) 46 zero46.toArray
  rw [hz] at hy
  have HX := Lib.hid ((Blk.new w 108 #[.pointer (some ⟨b, 0, none⟩)]).alloc (.cells zero46.toArray 46))
  have HY := Lib.hid hy
  have HF := Lib.hid hf
  have HS0 := Lib.hid (h.frF hf)
  have hbl := h.blk.lt
  have hbl1 : b < w.heap.size + 1 := by omega
  unfold zero46 at HX HY HF HS0
  clear h hf hn hq hp n1 n2 n3 n4 HG hy hz
  go_enter Tryz.func154, Tryz.ntmps154
  go_wp2_with fail
  generalize ((w.alloc (.cells #[.pointer (some ⟨b, 0, none⟩)] 108)).alloc (.cells #[.int .i64 0, .string ⟨#[]⟩, .nilIface, .string ⟨#[]⟩, .nilIface, .string ⟨#[]⟩, .nilIface, .int .i64 0, .string ⟨#[]⟩, .slice none 0 0, .string ⟨#[]⟩, .string ⟨#[]⟩, .nilIface, .slice none 0 0, .string ⟨#[]⟩, .string ⟨#[]⟩, .slice none 0 0] 46)) = w0 at *
  refine (W1.out _ HS0.out).mono ?_
  rintro e w1 ⟨rfl, hs1, hf1⟩
  have hx1 := box_keep HX.out hbl hf1
  have x1 : w1.cell? ⟨w.heap.size, 0, none⟩ = some (.pointer (some ⟨b, 0, none⟩)) := hx1.cell 0
  have HX1 := Lib.hid hx1
  have HY1 := Lib.hid (old_keep HY.out (Nat.le_succ _) hbl hf1)
  have HS1 := Lib.hid hs1
  have HF1 := Lib.hid ((HF.out.mono (T := fun j => j = b) (fun _ _ h => h.elim)).trans' hf1)
  clear hx1 hs1 hf1
  go_wp2_with fail
  refine (W2.out _ HS1.out).mono ?_
  rintro e w2 ⟨rfl, hs2, hf2⟩
  have hx2 := box_keep HX1.out hbl hf2
  have x2 : w2.cell? ⟨w.heap.size, 0, none⟩ = some (.pointer (some ⟨b, 0, none⟩)) := hx2.cell 0
  have HX2 := Lib.hid hx2
  have HY2 := Lib.hid (old_keep HY1.out (Nat.le_succ _) hbl hf2)
  have HS2 := Lib.hid hs2
  have HF2 := Lib.hid (HF1.out.trans' hf2)
  clear hx2 hs2 hf2 x1
  go_wp2_with fail
  refine (W3.out _ HS2.out).mono ?_
  rintro e w3 ⟨rfl, hs3, hf3⟩
  have hx3 := box_keep HX2.out hbl hf3
  have x3 : w3.cell? ⟨w.heap.size, 0, none⟩ = some (.pointer (some ⟨b, 0, none⟩)) := hx3.cell 0
  have HX3 := Lib.hid hx3
  have HY3 := Lib.hid (old_keep HY2.out (Nat.le_succ _) hbl hf3)
  have HS3 := Lib.hid hs3
  have HF3 := Lib.hid (HF2.out.trans' hf3)
  clear hx3 hs3 hf3 x2
  go_wp2_with fail
  refine (W4.out _ HS3.out).mono ?_
  rintro e w4 ⟨rfl, hs4, hf4⟩
  have hx4 := box_keep HX3.out hbl hf4
  have x4 : w4.cell? ⟨w.heap.size, 0, none⟩ = some (.pointer (some ⟨b, 0, none⟩)) := hx4.cell 0
  have HX4 := Lib.hid hx4
  have HY4 := Lib.hid (old_keep HY3.out (Nat.le_succ _) hbl hf4)
  have HS4 := Lib.hid hs4
  have HF4 := Lib.hid (HF3.out.trans' hf4)
  clear hx4 hs4 hf4 x3
  go_wp2_with fail
  refine (HN.out _ HS4.out).mono ?_
  rintro e w5 ⟨rfl, hs5, hf5⟩
  have hx5 := box_keep HX4.out hbl hf5
  have x5 : w5.cell? ⟨w.heap.size, 0, none⟩ = some (.pointer (some ⟨b, 0, none⟩)) := hx5.cell 0
  have HX5 := Lib.hid hx5
  have HY5 := Lib.hid (old_keep HY4.out (Nat.le_succ _) hbl hf5)
  have HS5 := Lib.hid hs5
  have HF5 := Lib.hid (HF4.out.trans' hf5)
  clear hx5 hs5 hf5 x4
  go_wp2_with fail
  refine (HGS.out _ HS5.out).mono ?_
  rintro e w6 ⟨gv, v', rfl, hr6, hg6, hs6, hf6⟩
  obtain ⟨A6, c6, hgv⟩ := row_shape hr6
  subst hgv
  have hle : w.heap.size ≤ w5.heap.size := HF5.out.size
  have hy6 := old_keep HY5.out (Nat.le_succ _) hbl hf6
  have hst := Blk.setAll (vs := unionL (.slice A6 1 c6)) (old := zero46) hy6 rfl
  have HTH := Lib.hid (Blk.there (cs := zero46) hy6 (n := 17) rfl)
  have HY7 := Lib.hid hst.1
  have HS7 := Lib.hid (hs6.fr hst.2 (fun e => by omega) (fun j hj e => own_blk_ne hs6.row hy6 (by decide) (by rw [hj, e])))
  have hlt5 := HY5.out.lt
  have HG7 := Lib.hid ((GroupAt.fr hst.2 (fun j t cs hb _ _ e => by omega) hg6).base hle)
  have HR7 := Lib.hid (ownsRow_base (ownsRow_fr hr6 hst.2 (fun j hj e => own_blk_ne hr6 hy6 (by decide) (by rw [hj, e]))) hle)
  have HF7 := Lib.hid ((HF5.out.trans' hf6).trans (T := fun j => j = b ∨ j = w.heap.size + 1) (hst.2.mono (fun _ _ h => .inr h)) (fun j hj h => h.elim id (fun h => absurd hj (by omega))))
  have hl6 := hy6.lt
  unfold unionL at HY7 HS7 HG7 HR7 HF7
  clear hst hy6 hg6 hr6 hs6 hf6 x5
  have HONE := Lib.hid (unionL_one (.slice A6 1 c6) rfl)
  unfold unionL at HONE
  go_wp2_with (refine wpList_store_mid rfl 46 _ _ rfl _ _ _ rfl rfl HTH.out inf46 HONE.out ?_)
  exact bodyPost_ret (v := .agg (unionL (.slice A6 1 c6)).toArray) (results_cell_row rfl _ _ (w.heap.size + 1) 46 _ (0, 0) _ rfl HY7.out Tryz.underlying46 rfl (by kernel_rfl)) rfl ⟨_, v', rfl, HR7.out, HG7.out, HS7.out, HF7.out⟩

end Go.Proofs.YtebddgdkndmpjaaGreatDoor
