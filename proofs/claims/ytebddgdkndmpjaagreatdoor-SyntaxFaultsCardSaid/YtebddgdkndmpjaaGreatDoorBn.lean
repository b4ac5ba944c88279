/- A group that is too deep, told: walked. -/
import Derived.Test.YtebddgdkndmpjaaGreatDoorBm
import Derived.Deep.CutBlock
import Derived.Deep.RegionLawGrows
import Derived.Deep.Cut
import Derived.Deep.CutRange
import Derived.WalkKit
import Derived.WalkLawsBesides
import Derived.WalkSpells
import Derived.Deep.QuietTactic
import Derived.BigRegion
import Derived.BigQuiet
import Derived.Lib.Hide
import Derived.Outline
import Derived.Deep.AppendLies
import Derived.Deep.RegionLaw
import Derived.Deep.RegionWith
import Derived.Deep.RegionHeld3
import Derived.Deep.LoopGhost
import Derived.Deep.DeepFit
import Derived.Laws.ResultCell
import Derived.Laws.RangeAny
import Derived.Deep.MidRow
import Derived.StillTailTactics
import Derived.OpenShut
namespace Go.Proofs.YtebddgdkndmpjaaGreatDoor
set_option linter.unusedVariables false
open Go.RowKit Go

/-- A group too deep is told, with its place. -/
def GroupDeep (left : Nat) (d : Nat) : Prop := ∀ (b c p0 p q : Nat) (A : Option Addr) (rs : List Int) (w : World), skip rs [0] p0 = p → Nest rs d p q → Sc w b A c rs p0 → Calls Tryz.prog 99 #[.agg #[.pointer (some ⟨b, 0, none⟩)], .int .i64 (left : Int)] w fun e w' => Thrown ((p + left : Nat) : Int) 15 e ∧ Fr (fun j => j = b) w w'

set_option maxRecDepth 100000 in
set_option maxHeartbeats 4000000 in
theorem groups_deep (left d : Nat) (HG : GroupDeep left d) (b c p q : Nat) (A : Option Addr) (rs : List Int) (w : World) (hn : Nest rs d p q) (h : Sc w b A c rs p) :
    Calls Tryz.prog 210 #[.agg #[.pointer (some ⟨b, 0, none⟩)], .int .i64 (left : Int), .string ⟨#[85, 78, 73, 79, 78]⟩] w fun e w' => Thrown ((p + left : Nat) : Int) 15 e ∧ Fr (fun j => j = b) w w' := by
  have hf : Fr (fun _ => False) w (w.alloc (.cells #[.pointer (some ⟨b, 0, none⟩)] 108)) := (Fr.refl _ _).alloc _
  have HGR := Lib.hid (HG b c p p q A rs _ (skip_open hn.head) hn (h.frF hf))
  have HF := Lib.hid hf
  generalize ((p + left : Nat) : Int) = pl at *
  unfold Thrown at *
  clear h hf hn HG
  go_enter Tryz.func210, Tryz.ntmps210
  go_wp2_with fail
  refine HGR.out.mono ?_
  rintro e w1 ⟨rfl, hf1⟩
  go_wp2_with fail
  exact ⟨rfl, rfl, (HF.out.mono (fun _ _ h => h.elim)).trans' hf1⟩

set_option maxRecDepth 100000 in
set_option maxHeartbeats 40000000 in
theorem item_deep (left d : Nat) (HG : GroupDeep left d) (b c p q : Nat) (A : Option Addr) (rs : List Int) (w : World) (hn : Nest rs d p q) (h : Sc w b A c rs p) :
    Calls Tryz.prog 154 #[.agg #[.pointer (some ⟨b, 0, none⟩)], .int .i64 (left : Int)] w fun e w' => Thrown ((p + left : Nat) : Int) 15 e ∧ Fr (fun j => j = b) w w' := by
  have hp := hn.head
  have n1 := word_no (T := ⟨#[70, 73, 76, 84, 69, 82]⟩) (skip_open hp) hp (by decide) (by decide)
  have n2 := word_no (T := ⟨#[66, 73, 78, 68]⟩) (skip_open hp) hp (by decide) (by decide)
  have n3 := word_no (T := ⟨#[79, 80, 84, 73, 79, 78, 65, 76]⟩) (skip_open hp) hp (by decide) (by decide)
  have n4 := word_no (T := ⟨#[87, 73, 78, 68, 79, 87]⟩) (skip_open hp) hp (by decide) (by decide)
  have W1 := Lib.hid (fun w1 h1 => word_sc ⟨#[70, 73, 76, 84, 69, 82]⟩ b c p A rs w1 (ascii_of (by decide)) (by decide) h1)
  have W2 := Lib.hid (fun w1 h1 => word_sc ⟨#[66, 73, 78, 68]⟩ b c p A rs w1 (ascii_of (by decide)) (by decide) h1)
  have W3 := Lib.hid (fun w1 h1 => word_sc ⟨#[79, 80, 84, 73, 79, 78, 65, 76]⟩ b c p A rs w1 (ascii_of (by decide)) (by decide) h1)
  have W4 := Lib.hid (fun w1 h1 => word_sc ⟨#[87, 73, 78, 68, 79, 87]⟩ b c p A rs w1 (ascii_of (by decide)) (by decide) h1)
  rw [n1.1, n1.2] at W1
  rw [n2.1, n2.2] at W2
  rw [n3.1, n3.2] at W3
  rw [n4.1, n4.2] at W4
  have HN := Lib.hid (fun w1 h1 => nextsign_sc b c p A rs w1 h1)
  rw [skip_open hp, hp] at HN
  have HGS := Lib.hid (fun w1 h1 => groups_deep left d HG b c p q A rs w1 hn h1)
  have hf : Fr (fun _ => False) w ((w.alloc (.cells #[.pointer (some ⟨b, 0, none⟩)] 108)).alloc (.cells zero46.toArray 46)) := ((Fr.refl _ _).alloc _).alloc _
  have HX := Lib.hid ((Blk.new w 108 #[.pointer (some ⟨b, 0, none⟩)]).alloc (.cells zero46.toArray 46))
  have HF := Lib.hid hf
  have HS0 := Lib.hid (h.frF hf)
  have hbl := h.blk.lt
  unfold zero46 at HX HF HS0
  generalize ((p + left : Nat) : Int) = pl at *
  unfold Thrown at *
  clear h hf hn hp n1 n2 n3 n4 HG
  go_enter Tryz.func154, Tryz.ntmps154
  go_wp2_with fail
  generalize ((w.alloc (.cells #[.pointer (some ⟨b, 0, none⟩)] 108)).alloc (.cells #[.int .i64 0, .string ⟨#[]⟩, .nilIface, .string ⟨#[]⟩, .nilIface, .string ⟨#[]⟩, .nilIface, .int .i64 0, .string ⟨#[]⟩, .slice none 0 0, .string ⟨#[]⟩, .string ⟨#[]⟩, .nilIface, .slice none 0 0, .string ⟨#[]⟩, .string ⟨#[]⟩, .slice none 0 0] 46)) = w0 at *
  refine (W1.out _ HS0.out).mono ?_
  rintro e w1 ⟨rfl, hs1, hf1⟩
  have hx1 := box_keep HX.out hbl hf1
  have x1 : w1.cell? ⟨w.heap.size, 0, none⟩ = some (.pointer (some ⟨b, 0, none⟩)) := hx1.cell 0
  have HX1 := Lib.hid hx1
  have HS1 := Lib.hid hs1
  have HF1 := Lib.hid ((HF.out.mono (T := fun j => j = b) (fun _ _ h => h.elim)).trans' hf1)
  clear hx1 hs1 hf1
  go_wp2_with fail
  refine (W2.out _ HS1.out).mono ?_
  rintro e w2 ⟨rfl, hs2, hf2⟩
  have hx2 := box_keep HX1.out hbl hf2
  have x2 : w2.cell? ⟨w.heap.size, 0, none⟩ = some (.pointer (some ⟨b, 0, none⟩)) := hx2.cell 0
  have HX2 := Lib.hid hx2
  have HS2 := Lib.hid hs2
  have HF2 := Lib.hid (HF1.out.trans' hf2)
  clear hx2 hs2 hf2 x1
  go_wp2_with fail
  refine (W3.out _ HS2.out).mono ?_
  rintro e w3 ⟨rfl, hs3, hf3⟩
  have hx3 := box_keep HX2.out hbl hf3
  have x3 : w3.cell? ⟨w.heap.size, 0, none⟩ = some (.pointer (some ⟨b, 0, none⟩)) := hx3.cell 0
  have HX3 := Lib.hid hx3
  have HS3 := Lib.hid hs3
  have HF3 := Lib.hid (HF2.out.trans' hf3)
  clear hx3 hs3 hf3 x2
  go_wp2_with fail
  refine (W4.out _ HS3.out).mono ?_
  rintro e w4 ⟨rfl, hs4, hf4⟩
  have hx4 := box_keep HX3.out hbl hf4
  have x4 : w4.cell? ⟨w.heap.size, 0, none⟩ = some (.pointer (some ⟨b, 0, none⟩)) := hx4.cell 0
  have HX4 := Lib.hid hx4
  have HS4 := Lib.hid hs4
  have HF4 := Lib.hid (HF3.out.trans' hf4)
  clear hx4 hs4 hf4 x3
  go_wp2_with fail
  refine (HN.out _ HS4.out).mono ?_
  rintro e w5 ⟨rfl, hs5, hf5⟩
  have hx5 := box_keep HX4.out hbl hf5
  have x5 : w5.cell? ⟨w.heap.size, 0, none⟩ = some (.pointer (some ⟨b, 0, none⟩)) := hx5.cell 0
  have HS5 := Lib.hid hs5
  have HF5 := Lib.hid (HF4.out.trans' hf5)
  clear hx5 hs5 hf5 x4
  go_wp2_with fail
  refine (HGS.out _ HS5.out).mono ?_
  rintro e w6 ⟨rfl, hf6⟩
  go_wp2_with fail
  exact ⟨rfl, rfl, HF5.out.trans' hf6⟩

/-- How each group begins: the box, the blanks, the place, the mark. -/
theorem group_deep0 (d : Nat) : GroupDeep 0 d := by
  intro b c p0 p q A rs w hs0 hn h
  have hp := hn.head
  have hf : Fr (fun _ => False) w ((w.alloc (.cells #[.pointer (some ⟨b, 0, none⟩)] 108)).alloc (.cells #[.slice none 0 0] 27)) := ((Fr.refl _ _).alloc _).alloc _
  have HB := Lib.hid (blanks_sc b c p0 A rs _ (h.frF hf))
  rw [hs0] at HB
  clear hs0
  have HP := Lib.hid (fun w1 h1 => place_sc b c p A rs w1 h1)
  have y1 := mark_yes (x := 123) (skip_open hp) hp
  have HM := Lib.hid (fun w1 h1 => must_sc ⟨#[123]⟩ b c p (p + 1) A rs w1 (ascii_of (by decide)) (by decide) y1.1 y1.2 h1)
  have HFA := Lib.hid (fun pv w1 => fail_sc pv (p : Int) 15 w1)
  have HX := Lib.hid ((Blk.new w 108 #[.pointer (some ⟨b, 0, none⟩)]).alloc (.cells #[.slice none 0 0] 27))
  have HF := Lib.hid hf
  have hbl := h.blk.lt
  unfold Thrown at *
  rw [Nat.add_zero]
  clear h hf hp y1 hn
  go_enter Tryz.func99, Tryz.ntmps99
  go_wp2_with fail
  refine HB.out.mono ?_
  rintro e w1 ⟨⟨k, rfl⟩, hs1, hf1⟩
  have hx1 := box_keep HX.out hbl hf1
  have x1 : w1.cell? ⟨w.heap.size, 0, none⟩ = some (.pointer (some ⟨b, 0, none⟩)) := hx1.cell 0
  have HX1 := Lib.hid hx1
  have HF1 := Lib.hid ((HF.out.mono (T := fun j => j = b) (fun _ _ h => h.elim)).trans' hf1)
  have HPP := Lib.hid (HP.out w1 hs1)
  have HMM := Lib.hid (HM.out w1 hs1)
  clear hx1 hs1 hf1
  go_wp2_with fail
  refine HPP.out.mono ?_
  rintro e w1' ⟨rfl, rfl⟩
  go_wp2_with fail
  refine HMM.out.mono ?_
  rintro e w2 ⟨rfl, hs2, hf2⟩
  have x2 : w2.cell? ⟨w.heap.size, 0, none⟩ = some (.pointer (some ⟨b, 0, none⟩)) := (box_keep HX1.out hbl hf2).cell 0
  have HF2 := Lib.hid (HF1.out.trans' hf2)
  clear hs2 hf2 x1
  go_wp2_with fail
  refine (HFA.out _ _).mono ?_
  rintro e w3 ⟨rfl, hf3⟩
  go_wp2_with fail
  exact ⟨rfl, rfl, HF2.out.trans hf3 (fun _ _ h => h.elim)⟩

set_option maxRecDepth 100000 in
set_option maxHeartbeats 40000000 in
theorem groupS_deep (left d : Nat) (hl2 : left < 40) (HG : GroupDeep left d) : GroupDeep (left + 1) (d + 1) := by
  intro b c p0 p q A rs w hs0 hn h
  obtain ⟨hp, q', hn1, hq1, rfl⟩ := hn
  have hp1 := hn1.head
  have hf : Fr (fun _ => False) w ((w.alloc (.cells #[.pointer (some ⟨b, 0, none⟩)] 108)).alloc (.cells #[.slice none 0 0] 27)) := ((Fr.refl _ _).alloc _).alloc _
  have HB := Lib.hid (blanks_sc b c p0 A rs _ (h.frF hf))
  rw [hs0] at HB
  clear hs0
  have HP := Lib.hid (fun w1 h1 => place_sc b c p A rs w1 h1)
  have y1 := mark_yes (x := 123) (skip_open hp) hp
  have y3 := mark_no (x := 125) (skip_open hp1) (by rw [hp1]; decide)
  have HM := Lib.hid (fun w1 h1 => must_sc ⟨#[123]⟩ b c p (p + 1) A rs w1 (ascii_of (by decide)) (by decide) y1.1 y1.2 h1)
  have HE1 := Lib.hid (fun w1 h1 => mark_sc ⟨#[125]⟩ b c (p + 1) A rs w1 (ascii_of (by decide)) (by decide) h1)
  rw [y3.1, y3.2] at HE1
  have HIT := Lib.hid (fun w1 h1 => item_deep left d HG b c (p + 1) q' A rs w1 hn1 h1)
  have HX := Lib.hid ((Blk.new w 108 #[.pointer (some ⟨b, 0, none⟩)]).alloc (.cells #[.slice none 0 0] 27))
  have HF := Lib.hid hf
  have hbl := h.blk.lt
  obtain ⟨lf, hlf⟩ : ∃ lf : Int, lf = ((left + 1 : Nat) : Int) := ⟨_, rfl⟩
  rw [← hlf]
  have hl' : (lf == 0) = false := by simp; omega
  have hlw : IntKind.i64.wrap (lf - 1) = (left : Int) := by rw [IntWalk.i64_in _ (by omega)]; omega
  have HPL := Lib.hid (show ((p + 1 + left : Nat) : Int) = ((p + (left + 1) : Nat) : Int) by omega)
  rw [HPL.out] at HIT
  generalize ((p + (left + 1) : Nat) : Int) = pl at *
  unfold Thrown at *
  clear h hf hp hp1 y1 y3 hn1 hq1 HG hlf HPL
  go_enter Tryz.func99, Tryz.ntmps99
  go_wp2_with fail
  refine HB.out.mono ?_
  rintro e w1 ⟨⟨k, rfl⟩, hs1, hf1⟩
  have hx1 := box_keep HX.out hbl hf1
  have x1 : w1.cell? ⟨w.heap.size, 0, none⟩ = some (.pointer (some ⟨b, 0, none⟩)) := hx1.cell 0
  have HX1 := Lib.hid hx1
  have HF1 := Lib.hid ((HF.out.mono (T := fun j => j = b) (fun _ _ h => h.elim)).trans' hf1)
  have HPP := Lib.hid (HP.out w1 hs1)
  have HMM := Lib.hid (HM.out w1 hs1)
  clear hx1 hs1 hf1
  go_wp2_with fail
  refine HPP.out.mono ?_
  rintro e w1' ⟨rfl, rfl⟩
  go_wp2_with fail
  refine HMM.out.mono ?_
  rintro e w2 ⟨rfl, hs2, hf2⟩
  have hf3 : Fr (fun _ => False) w2 (w2.alloc (.cells #[.slice none 0 0] 27)) := (Fr.refl _ _).alloc _
  have HX3 := Lib.hid ((box_keep HX1.out hbl hf2).fr hf3 (fun h => h))
  have HO3 := Lib.hid (Blk.new w2 27 #[.slice none 0 0])
  have HF3 := Lib.hid ((HF1.out.trans' hf2).trans hf3 (fun _ _ h => h.elim))
  have HS3 := Lib.hid (hs2.frF hf3)
  have hly := (box_keep HX1.out hbl hf2).lt
  clear hs2 hf2 hf3 x1
  go_wp2_with fail
  go_loopw [20] (fun _ wr => w2.alloc (.cells #[.slice none 0 0] 27) = wr) (fun _ _ => 0)
  case atStart => exact rfl
  case round =>
    subst hrel
    have x3 : (w2.alloc (.cells #[.slice none 0 0] 27)).cell? ⟨w.heap.size, 0, none⟩ = some (.pointer (some ⟨b, 0, none⟩)) := HX3.out.cell 0
    have HEE := Lib.hid (HE1.out _ HS3.out)
    generalize w2.alloc (.cells #[.slice none 0 0] 27) = w3 at *
    go_wp2_with fail
    refine HEE.out.mono ?_
    rintro e w4 ⟨rfl, hs4, hf4⟩
    have hx4 := box_keep HX3.out hbl hf4
    have x4 : w4.cell? ⟨w.heap.size, 0, none⟩ = some (.pointer (some ⟨b, 0, none⟩)) := hx4.cell 0
    have hb2 : b < w2.heap.size := by omega
    have ho4 := HO3.out.fr hf4 (fun e => by omega)
    have o4 : w4.cell? ⟨w2.heap.size, 0, none⟩ = some (.slice none 0 0) := ho4.cell 0
    have HO4 := Lib.hid ho4
    have HF4 := Lib.hid (HF3.out.trans' hf4)
    have HS4 := Lib.hid hs4
    clear hx4 hs4 hf4 x3 ho4
    go_wp2_with fail
    go_region_law (
      (go_simp; go_at_call 154; refine (HIT.out _ (HS4.out.frF (by repeat' (first | exact Fr.refl _ _ | refine Fr.drew ?_)))).mono ?_; rintro e w6 ⟨rfl, hf6⟩; have F6 : Fr (fun j => j = b) w w6 := HF4.out.trans' (Fr.trans' (by repeat' (first | exact Fr.refl _ _ | refine Fr.drew ?_)) hf6); refine (fun (_ : wpAny Tryz.prog .any #[] (fun _ _ _ => True) w6.heap.size #[] ⟨#[], []⟩ w6) => And.intro rfl (And.intro rfl F6)) ?_))
    all_goals trivial

/-- Groups in one another, more than may be: the first one too deep is told. -/
theorem group_deep : ∀ (left d : Nat), left ≤ 40 → left ≤ d → GroupDeep left d
  | 0, d, _, _ => group_deep0 d
  | left + 1, 0, _, h => by omega
  | left + 1, d + 1, h, h2 => groupS_deep left d (by omega) (group_deep left d (by omega) (by omega))

end Go.Proofs.YtebddgdkndmpjaaGreatDoor
