/- A group in a group, parsed: walked. -/
import Derived.Test.YtebddgdkndmpjaaGreatDoorBl
import Derived.Deep.CutBlock
import Derived.Deep.RegionLawGrows
import Derived.Deep.Cut
import Derived.Deep.CutRange
import Derived.WalkKit
import Derived.WalkLawsBesides
import Derived.WalkSpells
import Derived.Deep.QuietTactic
import Derived.BigRegion
import Derived.BigQuiet
import Derived.Lib.Hide
import Derived.Outline
import Derived.Deep.AppendLies
import Derived.Deep.RegionLaw
import Derived.Deep.RegionWith
import Derived.Deep.RegionHeld3
import Derived.Deep.LoopGhost
import Derived.Deep.DeepFit
import Derived.Laws.ResultCell
import Derived.Laws.RangeAny
import Derived.Deep.MidRow
import Derived.StillTailTactics
import Derived.OpenShut
namespace Go.Proofs.YtebddgdkndmpjaaGreatDoor
set_option linter.unusedVariables false
open Go.RowKit Go

set_option maxRecDepth 100000 in
set_option maxHeartbeats 40000000 in
theorem group0_sc (left : Int) (hl : ¬ left = 0) : GroupOk left 0 := by
  intro b c p0 p q A rs w hs0 hn h
  obtain ⟨hp, hp1, rfl⟩ := hn
  have hf : Fr (fun _ => False) w ((w.alloc (.cells #[.pointer (some ⟨b, 0, none⟩)] 108)).alloc (.cells #[.slice none 0 0] 27)) := ((Fr.refl _ _).alloc _).alloc _
  have hz : (w.alloc (.cells #[.pointer (some ⟨b, 0, none⟩)] 108)).heap.size = w.heap.size + 1 := by simp
  have hy := Blk.new (w.alloc (.cells #[.pointer (some ⟨b, 0, none⟩)] 108)) 27 #[.slice none 0 0]
  rw [hz] at hy
  have HB := Lib.hid (blanks_sc b c p0 A rs _ (h.frF hf))
  rw [hs0] at HB
  clear hs0
  have HP := Lib.hid (fun w1 h1 => place_sc b c p A rs w1 h1)
  have y1 := mark_yes (x := 123) (skip_open hp) hp
  have y2 := mark_yes (x := 125) (skip_shut hp1) hp1
  have HM := Lib.hid (fun w1 h1 => must_sc ⟨#[123]⟩ b c p (p + 1) A rs w1 (ascii_of (by decide)) (by decide) y1.1 y1.2 h1)
  have HE := Lib.hid (fun w1 h1 => mark_sc ⟨#[125]⟩ b c (p + 1) A rs w1 (ascii_of (by decide)) (by decide) h1)
  rw [y2.1, y2.2] at HE
  have HX := Lib.hid ((Blk.new w 108 #[.pointer (some ⟨b, 0, none⟩)]).alloc (.cells #[.slice none 0 0] 27))
  have HY := Lib.hid hy
  have HF := Lib.hid hf
  have hbl := h.blk.lt
  have hl' : (left == 0) = false := by simpa using hl
  clear h hf hy hz hp hp1 y1 y2
  go_enter Tryz.func99, Tryz.ntmps99
  go_wp2_with fail
  refine HB.out.mono ?_
  rintro e w1 ⟨⟨k, rfl⟩, hs1, hf1⟩
  have hx1 := box_keep HX.out hbl hf1
  have x1 : w1.cell? ⟨w.heap.size, 0, none⟩ = some (.pointer (some ⟨b, 0, none⟩)) := hx1.cell 0
  have HX1 := Lib.hid hx1
  have HY1 := Lib.hid (old_keep HY.out (Nat.le_succ _) hbl hf1)
  have HF1 := Lib.hid ((HF.out.mono (T := fun j => j = b) (fun _ _ h => h.elim)).trans' hf1)
  have HPP := Lib.hid (HP.out w1 hs1)
  have HMM := Lib.hid (HM.out w1 hs1)
  clear hx1 hs1 hf1
  go_wp2_with fail
  refine HPP.out.mono ?_
  rintro e w1' ⟨rfl, rfl⟩
  go_wp2_with fail
  refine HMM.out.mono ?_
  rintro e w2 ⟨rfl, hs2, hf2⟩
  have hf3 : Fr (fun _ => False) w2 (w2.alloc (.cells #[.slice none 0 0] 27)) := (Fr.refl _ _).alloc _
  have HX3 := Lib.hid ((box_keep HX1.out hbl hf2).fr hf3 (fun h => h))
  have HY3 := Lib.hid ((old_keep HY1.out (Nat.le_succ _) hbl hf2).fr hf3 (fun h => h))
  have HO3 := Lib.hid (Blk.new w2 27 #[.slice none 0 0])
  have HF3 := Lib.hid ((HF1.out.trans' hf2).trans hf3 (fun _ _ h => h.elim))
  have HEE := Lib.hid (HE.out _ (hs2.frF hf3))
  have x2 : w2.cell? ⟨w.heap.size, 0, none⟩ = some (.pointer (some ⟨b, 0, none⟩)) := (box_keep HX1.out hbl hf2).cell 0
  have hlx := (box_keep HX1.out hbl hf2).lt
  have hly := (old_keep HY1.out (Nat.le_succ _) hbl hf2).lt
  clear hs2 hf2 hf3 x1
  go_wp2_with fail
  go_loopw [20] (fun _ wr => w2.alloc (.cells #[.slice none 0 0] 27) = wr) (fun _ _ => 0)
  case atStart => exact rfl
  case round =>
    subst hrel
    go_wp2_with fail
    refine HEE.out.mono ?_
    rintro e w4 ⟨rfl, hs4, hf4⟩
    have ho4 := HO3.out.fr hf4 (fun e => by omega)
    have o4 : w4.cell? ⟨w2.heap.size, 0, none⟩ = some (.slice none 0 0) := ho4.cell 0
    have hy4 := old_keep HY3.out (Nat.le_succ _) hbl hf4
    have yc : w4.cell? ⟨w.heap.size + 1, 0, none⟩ = some (.slice none 0 0) := hy4.cell 0
    have yf := hy4.frozen 0
    have yl := hy4.lt
    have FS : Fr (fun j => j = w.heap.size + 1) w4 (w4.setCell ⟨w.heap.size + 1, 0, none⟩ (.slice none 0 0)) := (Fr.refl (fun j => j = w.heap.size + 1) w4).setCell ⟨w.heap.size + 1, 0, none⟩ (fun _ => rfl) _
    have HY5 := Lib.hid (show Blk (w4.setCell ⟨w.heap.size + 1, 0, none⟩ (.slice none 0 0)) (w.heap.size + 1) 27 #[.slice none 0 0] from hy4.set_ 0 (.slice none 0 0))
    have HS5 := Lib.hid (hs4.fr FS (fun e => by omega) (fun j hj e => own_blk_ne hs4.row hy4 (by decide) (by rw [hj, e])))
    have HF5 := Lib.hid ((HF3.out.trans' hf4).trans (T := fun j => j = b ∨ j = w.heap.size + 1) (FS.mono (fun _ _ h => .inr h)) (fun j hj h => h.elim id (fun h => absurd hj (by omega))))
    clear hs4 hf4 ho4 hy4 FS
    go_wp2_with fail
    exact bodyPost_ret (v := .agg #[.slice none 0 0]) (results_cell_row rfl _ _ (w.heap.size + 1) 27 _ (0, 0) _ rfl HY5.out Tryz.underlying27 rfl (by kernel_rfl)) rfl ⟨_, rfl, rfl, HS5.out, HF5.out⟩

/-- The one item, put into the group. -/
theorem item_push {w6 w8 : World} {ob b c q d gg cap B0 B' : Nat} {A : Option Addr} {rs : List Int} {gv v' : Value} {o : Obj} (hB : ob < B') (hw : B0 ≤ B') (hs : Sc w6 b A c rs q) (ho : Blk w6 ob 27 #[.slice none 0 0]) (hr : w6.ownsRow B' 27 1 gv 1 [v']) (hg : GroupAt w6 B' d v')
    (hown : w8.ownsRow B0 46 17 (.slice (some ⟨gg, 0, none⟩) 1 cap) 1 (unionL gv)) (hgr : (w6.alloc o).grownBy w8 (Value.slice none 0 0).ownBlock) :
    (Sc (w8.setCell ⟨ob, 0, none⟩ (.slice (some ⟨gg, 0, none⟩) 1 cap)) b A c rs q ∧ Blk (w8.setCell ⟨ob, 0, none⟩ (.slice (some ⟨gg, 0, none⟩) 1 cap)) ob 27 #[.slice (some ⟨gg, 0, none⟩) 1 cap] ∧
      (w8.setCell ⟨ob, 0, none⟩ (.slice (some ⟨gg, 0, none⟩) 1 cap)).ownsRow B0 46 17 (.slice (some ⟨gg, 0, none⟩) 1 cap) 1 (unionL gv) ∧ (w8.setCell ⟨ob, 0, none⟩ (.slice (some ⟨gg, 0, none⟩) 1 cap)).ownsRow B0 27 1 gv 1 [v'] ∧
      GroupAt (w8.setCell ⟨ob, 0, none⟩ (.slice (some ⟨gg, 0, none⟩) 1 cap)) B0 d v') ∧ Fr (fun j => j = ob) w6 (w8.setCell ⟨ob, 0, none⟩ (.slice (some ⟨gg, 0, none⟩) 1 cap)) := by
  have F8 : Fr (fun _ => False) w6 w8 := ((Fr.refl _ w6).alloc o).trans (Fr.of_grown hgr) (fun _ _ h => by cases h)
  have ho8 := ho.fr F8 (fun h => h)
  have FS : Fr (fun j => j = ob) w8 (w8.setCell ⟨ob, 0, none⟩ (.slice (some ⟨gg, 0, none⟩) 1 cap)) := (Fr.refl (fun j => j = ob) w8).setCell ⟨ob, 0, none⟩ (fun _ => rfl) _
  exact ⟨⟨(hs.frF F8).fr FS (fun e => Blk.ne_ hs.blk ho (by decide) e) (fun j hj e => own_blk_ne hs.row ho (by decide) (by rw [hj, e])), ho8.set_ 0 _, ownsRow_fr hown FS (fun j hj e => own_blk_ne hown ho8 (by decide) (by rw [hj, e])), ownsRow_base (ownsRow_fr (ownsRow_fr hr F8 (fun _ _ h => h)) FS (fun j hj e => by have := (hr.lt j hj).1; omega)) hw,
    (GroupAt.fr FS (fun j t cs hb _ _ e => by omega) (hg.frF F8)).base hw⟩, (F8.mono (fun _ _ h => h.elim)).trans' FS⟩

set_option maxRecDepth 100000 in
set_option maxHeartbeats 40000000 in
theorem groupS_sc (left : Int) (d : Nat) (hl : 1 ≤ left) (hl2 : left ≤ 40) (HG : GroupOk (left - 1) d) : GroupOk left (d + 1) := by
  intro b c p0 p q A rs w hs0 hn h
  obtain ⟨hp, q', hn1, hq1, rfl⟩ := hn
  have hp1 := hn1.head
  obtain ⟨i46, hi46, hz460, hz461, hz462⟩ := info_parts infZ46
  have hf : Fr (fun _ => False) w ((w.alloc (.cells #[.pointer (some ⟨b, 0, none⟩)] 108)).alloc (.cells #[.slice none 0 0] 27)) := ((Fr.refl _ _).alloc _).alloc _
  have hz : (w.alloc (.cells #[.pointer (some ⟨b, 0, none⟩)] 108)).heap.size = w.heap.size + 1 := by simp
  have hy := Blk.new (w.alloc (.cells #[.pointer (some ⟨b, 0, none⟩)] 108)) 27 #[.slice none 0 0]
  rw [hz] at hy
  have HB := Lib.hid (blanks_sc b c p0 A rs _ (h.frF hf))
  rw [hs0] at HB
  clear hs0
  have HP := Lib.hid (fun w1 h1 => place_sc b c p A rs w1 h1)
  have y1 := mark_yes (x := 123) (skip_open hp) hp
  have y2 := mark_yes (x := 125) (skip_shut hq1) hq1
  have y3 := mark_no (x := 125) (skip_open hp1) (by rw [hp1]; decide)
  have HM := Lib.hid (fun w1 h1 => must_sc ⟨#[123]⟩ b c p (p + 1) A rs w1 (ascii_of (by decide)) (by decide) y1.1 y1.2 h1)
  have HE1 := Lib.hid (fun w1 h1 => mark_sc ⟨#[125]⟩ b c (p + 1) A rs w1 (ascii_of (by decide)) (by decide) h1)
  rw [y3.1, y3.2] at HE1
  have HE2 := Lib.hid (fun w1 h1 => mark_sc ⟨#[125]⟩ b c q' A rs w1 (ascii_of (by decide)) (by decide) h1)
  rw [y2.1, y2.2] at HE2
  have HIT := Lib.hid (fun w1 h1 => item_sc (left - 1) d HG b c (p + 1) q' A rs w1 hn1 hq1 h1)
  have HX := Lib.hid ((Blk.new w 108 #[.pointer (some ⟨b, 0, none⟩)]).alloc (.cells #[.slice none 0 0] 27))
  have HY := Lib.hid hy
  have HF := Lib.hid hf
  have hbl := h.blk.lt
  have hl' : (left == 0) = false := by simp; omega
  have hlw : IntKind.i64.wrap (left - 1) = left - 1 := IntWalk.i64_in _ (by omega)
  clear h hf hy hz hp hp1 y1 y2 y3 hn1 hq1 HG
  go_enter Tryz.func99, Tryz.ntmps99
  go_wp2_with fail
  refine HB.out.mono ?_
  rintro e w1 ⟨⟨k, rfl⟩, hs1, hf1⟩
  have hx1 := box_keep HX.out hbl hf1
  have x1 : w1.cell? ⟨w.heap.size, 0, none⟩ = some (.pointer (some ⟨b, 0, none⟩)) := hx1.cell 0
  have HX1 := Lib.hid hx1
  have HY1 := Lib.hid (old_keep HY.out (Nat.le_succ _) hbl hf1)
  have HF1 := Lib.hid ((HF.out.mono (T := fun j => j = b) (fun _ _ h => h.elim)).trans' hf1)
  have HPP := Lib.hid (HP.out w1 hs1)
  have HMM := Lib.hid (HM.out w1 hs1)
  clear hx1 hs1 hf1
  go_wp2_with fail
  refine HPP.out.mono ?_
  rintro e w1' ⟨rfl, rfl⟩
  go_wp2_with fail
  refine HMM.out.mono ?_
  rintro e w2 ⟨rfl, hs2, hf2⟩
  have hf3 : Fr (fun _ => False) w2 (w2.alloc (.cells #[.slice none 0 0] 27)) := (Fr.refl _ _).alloc _
  have HX3 := Lib.hid ((box_keep HX1.out hbl hf2).fr hf3 (fun h => h))
  have HY3 := Lib.hid ((old_keep HY1.out (Nat.le_succ _) hbl hf2).fr hf3 (fun h => h))
  have HO3 := Lib.hid (Blk.new w2 27 #[.slice none 0 0])
  have HF3 := Lib.hid ((HF1.out.trans' hf2).trans hf3 (fun _ _ h => h.elim))
  have HS3 := Lib.hid (hs2.frF hf3)
  have hly := (old_keep HY1.out (Nat.le_succ _) hbl hf2).lt
  clear hs2 hf2 hf3 x1
  go_wp2_with fail
  go_loopg [20] (1) (fun g _ wr => (g = 1 ∧ w2.alloc (.cells #[.slice none 0 0] 27) = wr) ∨ (∃ gg cap gv v', Sc wr b A c rs q' ∧ Blk wr w2.heap.size 27 #[.slice (some ⟨gg, 0, none⟩) 1 cap] ∧ wr.ownsRow (w.heap.size + 2) 46 17 (.slice (some ⟨gg, 0, none⟩) 1 cap) 1 (unionL gv) ∧ wr.ownsRow (w.heap.size + 2) 27 1 gv 1 [v'] ∧ GroupAt wr (w.heap.size + 2) d v' ∧ Blk wr w.heap.size 108 #[.pointer (some ⟨b, 0, none⟩)] ∧ Blk wr (w.heap.size + 1) 27 #[.slice none 0 0] ∧ Fr (fun j => j = b) w wr))
  case atStart => exact .inl ⟨rfl, rfl⟩
  case round =>
    rcases hrel with ⟨rfl, rfl⟩ | ⟨gg, cap, gv, v', hs, ho, hrow, hgr, hga, hx, hyy, hfr⟩
    · have x3 : (w2.alloc (.cells #[.slice none 0 0] 27)).cell? ⟨w.heap.size, 0, none⟩ = some (.pointer (some ⟨b, 0, none⟩)) := HX3.out.cell 0
      have HEE := Lib.hid (HE1.out _ HS3.out)
      generalize w2.alloc (.cells #[.slice none 0 0] 27) = w3 at *
      go_wp2_with fail
      refine HEE.out.mono ?_
      rintro e w4 ⟨rfl, hs4, hf4⟩
      have hx4 := box_keep HX3.out hbl hf4
      have x4 : w4.cell? ⟨w.heap.size, 0, none⟩ = some (.pointer (some ⟨b, 0, none⟩)) := hx4.cell 0
      have hb2 : b < w2.heap.size := by omega
      have ho4 := HO3.out.fr hf4 (fun e => by omega)
      have o4 : w4.cell? ⟨w2.heap.size, 0, none⟩ = some (.slice none 0 0) := ho4.cell 0
      have HO4 := Lib.hid ho4
      have HX4 := Lib.hid hx4
      have HY4 := Lib.hid (old_keep HY3.out (Nat.le_succ _) hbl hf4)
      have HF4 := Lib.hid (HF3.out.trans' hf4)
      have HS4 := Lib.hid hs4
      have hs4z : w2.heap.size < w4.heap.size := ho4.lt
      have hws : w.heap.size ≤ w4.heap.size := HF4.out.size
      unfold ItemPost unionL at HIT
      clear hx4 hs4 hf4 x3 ho4
      go_wp2_with fail
      go_region_law (first
        | (go_simp; go_at_call 154; refine (HIT.out _ (HS4.out.frF (by repeat' (first | exact Fr.refl _ _ | refine Fr.drew ?_)))).mono ?_; rintro e w6 ⟨gv, v', rfl, hr6, hg6, hs6, hf6⟩; obtain ⟨A6, c6, hgv⟩ := row_shape hr6; subst hgv; have F6 : Fr (fun j => j = b) w4 w6 := Fr.trans' (by repeat' (first | exact Fr.refl _ _ | refine Fr.drew ?_)) hf6; have ho6 := HO4.out.fr F6 (fun e => by omega); have o6 : w6.cell? ⟨w2.heap.size, 0, none⟩ = some (.slice none 0 0) := ho6.cell 0; have l6 := ho6.lt)
        | (refine step_append_lies _ (by rfl) _ _ 25 (by rfl) (w.heap.size + 2) 46 i46 _ 17 280 Tryz.underlying25 hi46 hz460 hz461 hz462 rfl (by decide) (.slice none 0 0) 0 [] (by rfl) (World.ownsRow_nil _ _ _ _) _ 1 1 (unionL (.slice A6 1 c6)) (by rfl) rfl (World.news_of_block (heap_alloc_new w6 _)) (by intro u hu; unfold unionL at hu; simp only [List.mem_cons, List.not_mem_nil, or_false] at hu; rcases hu with rfl | rfl | rfl | rfl | rfl | rfl | rfl | rfl | rfl | rfl | rfl | rfl | rfl | rfl | rfl | rfl | rfl <;> rfl) (by decide) (by unfold maxLen; omega) (by omega) (by have := F6.size; simp; omega) _ rfl ?_; intro g8 cap w8 hown8 hgr8 hor8 hlt8; rw [Nat.zero_add, List.nil_append] at hown8; have HPU := Lib.hid (item_push (B0 := w.heap.size + 2) (ob := w2.heap.size) (show w2.heap.size < _ by first | exact hs4z | (simp; exact hs4z)) (show w.heap.size + 2 ≤ _ by first | omega | (simp; omega)) hs6 ho6 hr6 hg6 hown8 hgr8); have ho8 := (ho6.fr (((Fr.refl (fun _ => False) w6).alloc _).trans (Fr.of_grown hgr8) (fun _ _ h => by cases h)) (fun h => h)); have o8 := ho8.cell 0; have f8 := ho8.frozen 0; have l8 := ho8.lt))
      all_goals
        have HX8 := Lib.hid ((box_keep HX4.out hbl F6).fr HPU.out.2 (fun e => by omega))
        have HY8 := Lib.hid ((old_keep HY4.out (Nat.le_succ _) hbl F6).fr HPU.out.2 (fun e => by omega))
        have HF8 := Lib.hid ((HF4.out.trans' F6).trans HPU.out.2 (fun j hj e => absurd hj (by omega)))
        clear hr6 hg6 hs6 hf6 F6 ho6 o6 l6 hown8 hgr8 hor8 hlt8 ho8 o8 f8 l8
        go_wp2_with fail
        go_roundg (0)
        case measure => omega
        case rel => exact .inr ⟨_, _, _, _, HPU.out.1.1, HPU.out.1.2.1, HPU.out.1.2.2.1, HPU.out.1.2.2.2.1, HPU.out.1.2.2.2.2, HX8.out, HY8.out, HF8.out⟩
    · have x0 : wr.cell? ⟨w.heap.size, 0, none⟩ = some (.pointer (some ⟨b, 0, none⟩)) := hx.cell 0
      have HEE := Lib.hid (HE2.out _ hs)
      have HS := Lib.hid hs
      have HO := Lib.hid ho
      have HRW := Lib.hid hrow
      have HGR := Lib.hid hgr
      have HGA := Lib.hid hga
      have HYY := Lib.hid hyy
      have HFR := Lib.hid hfr
      clear hs ho hrow hgr hga hx hyy hfr
      go_wp2_with fail
      refine HEE.out.mono ?_
      rintro e w4 ⟨rfl, hs4, hf4⟩
      have ho4 := HO.out.fr hf4 (fun e => Blk.ne_ HO.out HS.out.blk (by decide) e)
      have o4 : w4.cell? ⟨w2.heap.size, 0, none⟩ = some (.slice (some ⟨gg, 0, none⟩) 1 cap) := ho4.cell 0
      have hy4 := old_keep HYY.out (Nat.le_succ _) hbl hf4
      have yc : w4.cell? ⟨w.heap.size + 1, 0, none⟩ = some (.slice none 0 0) := hy4.cell 0
      have yf := hy4.frozen 0
      have yl := hy4.lt
      have hr4 := ownsRow_fr HRW.out hf4 (fun j hj e => own_blk_ne HRW.out HS.out.blk (by decide) (by rw [hj, e]))
      have hg4 := ownsRow_fr HGR.out hf4 (fun j hj e => own_blk_ne HGR.out HS.out.blk (by decide) (by rw [hj, e]))
      have hga4 := HGA.out.frB HS.out.blk (by decide) (by decide) hf4
      have FS : Fr (fun j => j = w.heap.size + 1) w4 (w4.setCell ⟨w.heap.size + 1, 0, none⟩ (.slice (some ⟨gg, 0, none⟩) 1 cap)) := (Fr.refl (fun j => j = w.heap.size + 1) w4).setCell ⟨w.heap.size + 1, 0, none⟩ (fun _ => rfl) _
      have HY5 := Lib.hid (show Blk (w4.setCell ⟨w.heap.size + 1, 0, none⟩ (.slice (some ⟨gg, 0, none⟩) 1 cap)) (w.heap.size + 1) 27 #[.slice (some ⟨gg, 0, none⟩) 1 cap] from hy4.set_ 0 (.slice (some ⟨gg, 0, none⟩) 1 cap))
      have HG5 := Lib.hid (show GroupAt (w4.setCell ⟨w.heap.size + 1, 0, none⟩ (.slice (some ⟨gg, 0, none⟩) 1 cap)) w.heap.size (d + 1) (.slice (some ⟨gg, 0, none⟩) 1 cap) from
        ⟨gv, v', ownsRow_base (ownsRow_fr hr4 FS (fun j hj e => by have := (hr4.lt j hj).1; omega)) (by omega), ownsRow_base (ownsRow_fr hg4 FS (fun j hj e => by have := (hg4.lt j hj).1; omega)) (by omega), (GroupAt.fr FS (fun j t cs hb _ _ e => by omega) hga4).base (by omega)⟩)
      have HS5 := Lib.hid (hs4.fr FS (fun e => by omega) (fun j hj e => own_blk_ne hs4.row hy4 (by decide) (by rw [hj, e])))
      have HF5 := Lib.hid ((HFR.out.trans' hf4).trans (T := fun j => j = b ∨ j = w.heap.size + 1) (FS.mono (fun _ _ h => .inr h)) (fun j hj h => h.elim id (fun h => absurd hj (by omega))))
      clear hs4 hf4 ho4 hy4 FS hr4 hg4 hga4
      go_wp2_with fail
      exact bodyPost_ret (v := .agg #[.slice (some ⟨gg, 0, none⟩) 1 cap]) (results_cell_row rfl _ _ (w.heap.size + 1) 27 _ (0, 0) _ rfl HY5.out Tryz.underlying27 rfl (by kernel_rfl)) rfl ⟨_, rfl, HG5.out, HS5.out, HF5.out⟩

/-- Groups in one another, as many as may be. -/
theorem group_sc : ∀ (d : Nat) (left : Int), (d : Int) + 1 ≤ left → left ≤ 40 → GroupOk left d
  | 0, left, h, h2 => group0_sc left (by omega)
  | d + 1, left, h, h2 => groupS_sc left d (by omega) h2 (group_sc d (left - 1) (by omega) (by omega))

end Go.Proofs.YtebddgdkndmpjaaGreatDoor
