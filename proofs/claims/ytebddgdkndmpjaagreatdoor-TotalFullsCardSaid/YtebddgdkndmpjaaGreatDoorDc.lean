/- A text of a query with a fold, parsed: walked. -/
import Derived.Test.YtebddgdkndmpjaaGreatDoorBw
import Derived.Test.YtebddgdkndmpjaaGreatDoorBs
import Derived.Deep.CutBlock
import Derived.Deep.RegionLawGrows
import Derived.Deep.Cut
import Derived.Deep.CutRange
import Derived.WalkKit
import Derived.WalkLawsBesides
import Derived.WalkSpells
import Derived.Deep.QuietTactic
import Derived.BigRegion
import Derived.BigQuiet
import Derived.Lib.Hide
import Derived.Outline
import Derived.Deep.AppendLies
import Derived.Deep.RegionLaw
import Derived.Deep.RegionWith
import Derived.Deep.RegionHeld3
import Derived.Deep.LoopGhost
import Derived.Deep.DeepFit
import Derived.Laws.ResultCell
import Derived.Laws.RangeAny
import Derived.Deep.MidRow
import Derived.StillTailTactics
import Derived.OpenShut
namespace Go.Proofs.YtebddgdkndmpjaaGreatDoor
set_option linter.unusedVariables false
open Go.RowKit Go

/-- The words of the folds. -/
def folds : List ByteArray := [⟨#[67, 79, 85, 78, 84]⟩, ⟨#[83, 85, 77]⟩, ⟨#[77, 73, 78]⟩, ⟨#[77, 65, 88]⟩]
theorem folds_good : ∀ T, T ∈ folds → Ascii T ∧ T.size ≤ 100 := by
  intro T hT
  unfold folds at hT
  simp only [List.mem_cons, List.not_mem_nil, or_false] at hT
  rcases hT with rfl | rfl | rfl | rfl <;> exact ⟨ascii_of (by decide), by decide⟩
theorem inf176 : (Tryz.prog.info? 176).map (·.size) = some 3 := by kernel_rfl
theorem folds_ne : ∀ k, k < 4 → (folds.getD k ByteArray.empty).toList.isEmpty = false ∧ ¬ (folds.getD k ByteArray.empty).toList = [] := by decide +kernel
/-- A fold of a query's text: its places. -/
def FoldC (rs : List Int) (k p p1 p2 p3 : Nat) : Prop :=
  (markAt rs p ⟨#[40]⟩ = true ∧ markTo rs p ⟨#[40]⟩ = p1) ∧ skip rs [0] (skip rs [0] p1) = skip rs [0] p1 ∧ (∀ j, j < k → wordAt rs p1 (folds.getD j ByteArray.empty) = false ∧ wordAt rs (skip rs [0] p1) (folds.getD j ByteArray.empty) = false) ∧
  (wordAt rs p1 (folds.getD k ByteArray.empty) = true ∧ wordAt rs (skip rs [0] p1) (folds.getD k ByteArray.empty) = true) ∧ (wordTo rs p1 (folds.getD k ByteArray.empty) = p2 ∧ wordTo rs (skip rs [0] p1) (folds.getD k ByteArray.empty) = p2) ∧ (markAt rs p2 ⟨#[40]⟩ = true ∧ markTo rs p2 ⟨#[40]⟩ = p3)
instance (rs : List Int) (k p p1 p2 p3 : Nat) : Decidable (FoldC rs k p p1 p2 p3) := by unfold FoldC; infer_instance
def FoldE (rs : List Int) (l : List UInt8) (p5 p6 p7 s7 p9 : Nat) : Prop :=
  (markAt rs p5 ⟨#[41]⟩ = true ∧ markTo rs p5 ⟨#[41]⟩ = p6) ∧ (wordAt rs p6 tAS = true ∧ wordTo rs p6 tAS = p7) ∧ NC rs p7 s7 l ∧ (markAt rs (s7 + 1 + l.length) ⟨#[41]⟩ = true ∧ markTo rs (s7 + 1 + l.length) ⟨#[41]⟩ = p9)
instance (rs : List Int) (l : List UInt8) (p5 p6 p7 s7 p9 : Nat) : Decidable (FoldE rs l p5 p6 p7 s7 p9) := by unfold FoldE; infer_instance

set_option maxRecDepth 100000 in
set_option maxHeartbeats 40000000 in
/-- A fold that is selected. -/
theorem selected_star (k : Nat) (l : List UInt8) (b c p p1 p2 p3 p5 p6 p7 s7 p9 : Nat) (A : Option Addr) (rs : List Int) (w : World) (hk : k < 4) (hl : l.length ≤ 1000) (hc : FoldC rs k p p1 p2 p3) (he : FoldE rs l p5 p6 p7 s7 p9) (hst : markAt rs p3 ⟨#[42]⟩ = true ∧ markTo rs p3 ⟨#[42]⟩ = p5) (h : Sc w b A c rs p) :
    Calls Tryz.prog 96 #[.agg #[.pointer (some ⟨b, 0, none⟩)]] w (ScPost w b A c rs p9 (.agg #[.string ⟨l.toArray⟩, .string (folds.getD k ByteArray.empty), .string ⟨#[42]⟩])) := by
  have hf : Fr (fun _ => False) w ((w.alloc (.cells #[.pointer (some ⟨b, 0, none⟩)] 108)).alloc (.cells #[.string ⟨#[]⟩, .string ⟨#[]⟩, .string ⟨#[]⟩] 176)) := ((Fr.refl _ _).alloc _).alloc _
  have hx := Blk.new w 108 #[.pointer (some ⟨b, 0, none⟩)]
  have hy := Blk.new (w.alloc (.cells #[.pointer (some ⟨b, 0, none⟩)] 108)) 176 #[.string ⟨#[]⟩, .string ⟨#[]⟩, .string ⟨#[]⟩]
  rw [show (w.alloc (.cells #[.pointer (some ⟨b, 0, none⟩)] 108)).heap.size = w.heap.size + 1 by simp] at hy
  have hx := hx.alloc (.cells #[.string ⟨#[]⟩, .string ⟨#[]⟩, .string ⟨#[]⟩] 176)
  have HX := Lib.hid hx
  have HY := Lib.hid hy
  have HF := Lib.hid hf
  have HS := Lib.hid (h.frF hf)
  have hbl := h.blk.lt
  have HM1 := Lib.hid (fun w1 h1 => mark_sc ⟨#[40]⟩ b c p A rs w1 (ascii_of (by decide)) (by decide) h1)
  rw [hc.1.1, hc.1.2] at HM1
  have HO := Lib.hid (fun B N nc w1 h1 hr => one_sc folds k b c p1 B A N nc rs w1 folds_good (by decide) (show k < folds.length from hk) hc.2.1 hc.2.2.1 hc.2.2.2.1 p2 hc.2.2.2.2.1 h1 hr)
  have HM2 := Lib.hid (fun w1 h1 => must_sc ⟨#[40]⟩ b c p2 p3 A rs w1 (ascii_of (by decide)) (by decide) hc.2.2.2.2.2.1 hc.2.2.2.2.2.2 h1)
  have HM3 := Lib.hid (fun w1 h1 => mark_sc ⟨#[42]⟩ b c p3 A rs w1 (ascii_of (by decide)) (by decide) h1)
  rw [hst.1, hst.2] at HM3
  have HM4 := Lib.hid (fun w1 h1 => must_sc ⟨#[41]⟩ b c p5 p6 A rs w1 (ascii_of (by decide)) (by decide) he.1.1 he.1.2 h1)
  have HN := Lib.hid (fun w1 h1 => need_sc tAS b c p6 p7 A rs w1 (ascii_of (by decide)) (by decide) he.2.1.1 he.2.1.2 h1)
  have HV := Lib.hid (fun w1 h1 => variable_sc l b c p7 s7 A rs w1 hl he.2.2.1.1 he.2.2.1.name h1)
  have HM5 := Lib.hid (fun w1 h1 => must_sc ⟨#[41]⟩ b c (s7 + 1 + l.length) p9 A rs w1 (ascii_of (by decide)) (by decide) he.2.2.2.1 he.2.2.2.2 h1)
  have hne := folds_ne k hk
  have hT1 := hne.1
  have hT2 := hne.2
  generalize (⟨l.toArray⟩ : ByteArray) = t at *
  generalize s7 + 1 + l.length = p8 at *
  generalize hTT : folds.getD k ByteArray.empty = T at *
  unfold tAS at HN
  unfold folds at HO
  simp only [List.length_cons, List.length_nil, Nat.zero_add, List.map_cons, List.map_nil] at HO
  clear h hf hx hy hc he hst hk hne hTT hl
  go_enter Tryz.func96, Tryz.ntmps96
  go_wp2_with fail
  refine (HM1.out _ HS.out).mono ?_
  rintro e w1 ⟨rfl, hs1, hf1⟩
  have hx1 := HX.out.fr hf1 (fun e => by omega)
  have x1 : w1.cell? ⟨w.heap.size, 0, none⟩ = some (.pointer (some ⟨b, 0, none⟩)) := hx1.cell 0
  have HX1 := Lib.hid hx1
  have HY1 := Lib.hid (HY.out.fr hf1 (fun e => by omega))
  have HS1 := Lib.hid hs1
  have HF1 := Lib.hid ((HF.out.mono (T := fun j => j = b) (fun _ _ h => h.elim)).trans' hf1)
  clear hs1 hf1 hx1
  have hfa : Fr (fun _ => False) w1 (w1.alloc (.cells #[.string ⟨#[67, 79, 85, 78, 84]⟩, .string ⟨#[83, 85, 77]⟩, .string ⟨#[77, 73, 78]⟩, .string ⟨#[77, 65, 88]⟩] 9)) := (Fr.refl _ _).alloc _
  obtain ⟨w2, hw2⟩ : ∃ w2, w2 = w1.alloc (.cells #[.string ⟨#[67, 79, 85, 78, 84]⟩, .string ⟨#[83, 85, 77]⟩, .string ⟨#[77, 73, 78]⟩, .string ⟨#[77, 65, 88]⟩] 9) := ⟨_, rfl⟩
  obtain ⟨nb, hnb⟩ : ∃ nb, nb = w1.heap.size := ⟨_, rfl⟩
  have hm := Blk.new w1 9 #[.string ⟨#[67, 79, 85, 78, 84]⟩, .string ⟨#[83, 85, 77]⟩, .string ⟨#[77, 73, 78]⟩, .string ⟨#[77, 65, 88]⟩]
  have hrow := World.ownsRow_lit (base := 0) (e := 9) (size := 1) w1 #[.string ⟨#[67, 79, 85, 78, 84]⟩, .string ⟨#[83, 85, 77]⟩, .string ⟨#[77, 73, 78]⟩, .string ⟨#[77, 65, 88]⟩] 4 (Nat.zero_le _) (by decide) rfl
  rw [← hw2] at hfa hm
  rw [← hnb] at hm
  rw [← hw2, ← hnb] at hrow
  have hbnb : b < nb := by have := HX1.out.lt; omega
  have hcnb : w.heap.size + 2 ≤ nb := by have := HY1.out.lt; omega
  have hszz : w.heap.size + 1 < w1.heap.size := by have := HY1.out.lt; omega
  have hszy : w.heap.size < w1.heap.size := by omega
  have hx2 := HX1.out.fr hfa (fun h => h)
  have x2 : w2.cell? ⟨w.heap.size, 0, none⟩ = some (.pointer (some ⟨b, 0, none⟩)) := hx2.cell 0
  have HX2 := Lib.hid hx2
  have HY2 := Lib.hid (HY1.out.fr hfa (fun h => h))
  have HS2 := Lib.hid (HS1.out.frF hfa)
  have HF2 := Lib.hid (HF1.out.trans hfa (fun _ _ h => h.elim))
  have HRW := Lib.hid hrow
  clear hrow
  clear hfa hm hx2
  go_wp2_with fail
  rw [← hw2, ← hnb]
  clear hw2 hnb hszz hszy x1
  refine (HO.out 0 (some ⟨nb, 0, none⟩) 4 _ HS2.out HRW.out).mono ?_
  rintro e w3 ⟨rfl, hs3, hf3⟩
  have hx3 := HX2.out.fr hf3 (fun e => by omega)
  have x3 : w3.cell? ⟨w.heap.size, 0, none⟩ = some (.pointer (some ⟨b, 0, none⟩)) := hx3.cell 0
  have HX3 := Lib.hid hx3
  have HY3 := Lib.hid (HY2.out.fr hf3 (fun e => by omega))
  have HS3 := Lib.hid hs3
  have HF3 := Lib.hid (HF2.out.trans' hf3)
  clear hs3 hf3 hx3 x2
  have hfa : Fr (fun _ => False) w3 (w3.alloc (.cells #[.string ⟨#[]⟩, .string T, .string ⟨#[42]⟩] 176)) := (Fr.refl _ _).alloc _
  obtain ⟨w4, hw4⟩ : ∃ w4, w4 = w3.alloc (.cells #[.string ⟨#[]⟩, .string T, .string ⟨#[42]⟩] 176) := ⟨_, rfl⟩
  obtain ⟨mb, hmb⟩ : ∃ mb, mb = w3.heap.size := ⟨_, rfl⟩
  have hm := Blk.new w3 176 #[.string ⟨#[]⟩, .string T, .string ⟨#[42]⟩]
  rw [← hw4] at hfa hm
  rw [← hmb] at hm
  have hbmb : b < mb := by have := HX3.out.lt; omega
  have hcmb : w.heap.size + 2 ≤ mb := by have := HY3.out.lt; omega
  have hszz : w.heap.size + 1 < w3.heap.size := by have := HY3.out.lt; omega
  have hszy : w.heap.size < w3.heap.size := by omega
  have HQ4 := Lib.hid hm
  have hx4 := HX3.out.fr hfa (fun h => h)
  have x4 : w4.cell? ⟨w.heap.size, 0, none⟩ = some (.pointer (some ⟨b, 0, none⟩)) := hx4.cell 0
  have HX4 := Lib.hid hx4
  have HY4 := Lib.hid (HY3.out.fr hfa (fun h => h))
  have HS4 := Lib.hid (HS3.out.frF hfa)
  have HF4 := Lib.hid (HF3.out.trans hfa (fun _ _ h => h.elim))
  clear hfa hm hx4
  go_wp2_with fail
  rw [← hw4, ← hmb]
  clear hw4 hmb hszz hszy x3
  refine (HM2.out _ HS4.out).mono ?_
  rintro e w5 ⟨rfl, hs5, hf5⟩
  have hx5 := HX4.out.fr hf5 (fun e => by omega)
  have x5 : w5.cell? ⟨w.heap.size, 0, none⟩ = some (.pointer (some ⟨b, 0, none⟩)) := hx5.cell 0
  have HX5 := Lib.hid hx5
  have HY5 := Lib.hid (HY4.out.fr hf5 (fun e => by omega))
  have HQ5 := Lib.hid (HQ4.out.fr hf5 (fun e => by omega))
  have HS5 := Lib.hid hs5
  have HF5 := Lib.hid (HF4.out.trans' hf5)
  clear hs5 hf5 hx5 x4
  go_wp2_with fail
  refine (HM3.out _ HS5.out).mono ?_
  rintro e w6 ⟨rfl, hs6, hf6⟩
  have hx6 := HX5.out.fr hf6 (fun e => by omega)
  have x6 : w6.cell? ⟨w.heap.size, 0, none⟩ = some (.pointer (some ⟨b, 0, none⟩)) := hx6.cell 0
  have HX6 := Lib.hid hx6
  have HY6 := Lib.hid (HY5.out.fr hf6 (fun e => by omega))
  have HQ6 := Lib.hid (HQ5.out.fr hf6 (fun e => by omega))
  have HS6 := Lib.hid hs6
  have HF6 := Lib.hid (HF5.out.trans' hf6)
  clear hs6 hf6 hx6 x5
  go_wp2_with fail
  refine (HM4.out _ HS6.out).mono ?_
  rintro e w7 ⟨rfl, hs7, hf7⟩
  have hx7 := HX6.out.fr hf7 (fun e => by omega)
  have x7 : w7.cell? ⟨w.heap.size, 0, none⟩ = some (.pointer (some ⟨b, 0, none⟩)) := hx7.cell 0
  have HX7 := Lib.hid hx7
  have HY7 := Lib.hid (HY6.out.fr hf7 (fun e => by omega))
  have HQ7 := Lib.hid (HQ6.out.fr hf7 (fun e => by omega))
  have HS7 := Lib.hid hs7
  have HF7 := Lib.hid (HF6.out.trans' hf7)
  clear hs7 hf7 hx7 x6
  go_wp2_with fail
  refine (HN.out _ HS7.out).mono ?_
  rintro e w8 ⟨rfl, hs8, hf8⟩
  have hx8 := HX7.out.fr hf8 (fun e => by omega)
  have x8 : w8.cell? ⟨w.heap.size, 0, none⟩ = some (.pointer (some ⟨b, 0, none⟩)) := hx8.cell 0
  have HX8 := Lib.hid hx8
  have HY8 := Lib.hid (HY7.out.fr hf8 (fun e => by omega))
  have HQ8 := Lib.hid (HQ7.out.fr hf8 (fun e => by omega))
  have HS8 := Lib.hid hs8
  have HF8 := Lib.hid (HF7.out.trans' hf8)
  clear hs8 hf8 hx8 x7
  go_wp2_with fail
  refine (HV.out _ HS8.out).mono ?_
  rintro e w9 ⟨rfl, hs9, hf9⟩
  have hx9 := HX8.out.fr hf9 (fun e => by omega)
  have x9 : w9.cell? ⟨w.heap.size, 0, none⟩ = some (.pointer (some ⟨b, 0, none⟩)) := hx9.cell 0
  have HX9 := Lib.hid hx9
  have HY9 := Lib.hid (HY8.out.fr hf9 (fun e => by omega))
  have HQ9 := Lib.hid (HQ8.out.fr hf9 (fun e => by omega))
  have HS9 := Lib.hid hs9
  have HF9 := Lib.hid (HF8.out.trans' hf9)
  clear hs9 hf9 hx9 x8
  have hm := HQ9.out
  have oc : w9.cell? ⟨mb, 0, none⟩ = some (.string ⟨#[]⟩) := hm.cell 0
  have of := hm.frozen 0
  have ol := hm.lt
  have FS : Fr (fun j => j = mb) w9 (w9.setCell ⟨mb, 0, none⟩ (.string t)) := (Fr.refl (fun j => j = mb) w9).setCell ⟨mb, 0, none⟩ (fun _ => rfl) _
  obtain ⟨w10, hw10⟩ : ∃ w10, w10 = w9.setCell ⟨mb, 0, none⟩ (.string t) := ⟨_, rfl⟩
  have hm2 : Blk (w9.setCell ⟨mb, 0, none⟩ (.string t)) mb 176 #[.string t, .string T, .string ⟨#[42]⟩] := hm.set_ 0 (.string t)
  have hxr : (w9.setCell ⟨mb, 0, none⟩ (.string t)).cell? ⟨w.heap.size, 0, none⟩ = some (.pointer (some ⟨b, 0, none⟩)) := (HX9.out.fr FS (fun e => by omega)).cell 0
  have hxc : w9.cell? ⟨w.heap.size, 0, none⟩ = some (.pointer (some ⟨b, 0, none⟩)) := HX9.out.cell 0
  have hne : ¬ mb = w.heap.size := by omega
  rw [← hw10] at FS hm2
  have HQ10 := Lib.hid hm2
  have hx10 := HX9.out.fr FS (fun e => by omega)
  have x10 : w10.cell? ⟨w.heap.size, 0, none⟩ = some (.pointer (some ⟨b, 0, none⟩)) := hx10.cell 0
  have HX10 := Lib.hid hx10
  have HY10 := Lib.hid (HY9.out.fr FS (fun e => by omega))
  have HS10 := Lib.hid (HS9.out.fr FS (fun e => by omega) (fun j hj e => own_blk_ne HS9.out.row hm (by decide) (by rw [hj, e])))
  have HF10 := Lib.hid (HF9.out.trans (T := fun j => j = b ∨ j = mb) (FS.mono (fun _ _ h => .inr h)) (fun j hj h => h.elim id (fun h => absurd hj (by omega))))
  clear hm FS hm2 hx10
  go_wp2_with fail
  rw [← hw10]
  clear hw10 oc of ol hxr hxc hne x9
  refine (HM5.out _ HS10.out).mono ?_
  rintro e w11 ⟨rfl, hs11, hf11⟩
  have hx11 := HX10.out.fr hf11 (fun e => by omega)
  have x11 : w11.cell? ⟨w.heap.size, 0, none⟩ = some (.pointer (some ⟨b, 0, none⟩)) := hx11.cell 0
  have HX11 := Lib.hid hx11
  have HY11 := Lib.hid (HY10.out.fr hf11 (fun e => by omega))
  have HQ11 := Lib.hid (HQ10.out.fr hf11 (fun e => by omega))
  have HS11 := Lib.hid hs11
  have HF11 := Lib.hid (HF10.out.trans' hf11)
  clear hs11 hf11 hx11 x10
  have hm9 := HQ11.out
  have p0 : w11.cell? ⟨mb, 0, none⟩ = some (.string t) := hm9.cell 0
  have p1 : w11.cell? ⟨mb, 1, none⟩ = some (.string T) := hm9.cell 1
  have p2 : w11.cell? ⟨mb, 2, none⟩ = some (.string ⟨#[42]⟩) := hm9.cell 2
  clear hm9
  have hy12 := HY11.out
  have hst12 := Blk.setAll (vs := [.string t, .string T, .string ⟨#[42]⟩]) (old := [.string ⟨#[]⟩, .string ⟨#[]⟩, .string ⟨#[]⟩]) hy12 rfl
  have HTH12 := Lib.hid (Blk.there (cs := [.string ⟨#[]⟩, .string ⟨#[]⟩, .string ⟨#[]⟩]) hy12 (n := 3) rfl)
  have HST12 := Lib.hid hst12.1
  have HSS12 := Lib.hid (HS11.out.fr hst12.2 (fun e => by omega) (fun j hj e => own_blk_ne HS11.out.row hy12 (by decide) (by rw [hj, e])))
  have HFF12 := Lib.hid (HF11.out.trans (T := fun j => j = b ∨ j = w.heap.size + 1) (hst12.2.mono (fun _ _ h => .inr h)) (fun j hj h => h.elim id (fun h => absurd hj (by omega))))
  have HONE12 := Lib.hid (show (#[.string t, .string T, .string ⟨#[42]⟩] : Array Value).all (·.oneCell') = true from all_oneCell_toArray (by intro v hv; simp only [List.mem_cons, List.not_mem_nil, or_false] at hv; rcases hv with rfl | rfl | rfl <;> rfl))
  have hlt12 := hy12.lt
  clear hy12 hst12
  go_wp2_with (refine wpList_store_mid rfl 176 _ _ rfl _ _ _ rfl rfl HTH12.out inf176 HONE12.out ?_)
  exact bodyPost_ret (v := .agg #[.string t, .string T, .string ⟨#[42]⟩]) (results_cell_row rfl _ _ (w.heap.size + 1) 176 _ (0, 0) _ rfl HST12.out Tryz.underlying176 rfl (by kernel_rfl)) rfl ⟨rfl, HSS12.out, HFF12.out⟩

set_option maxRecDepth 100000 in
set_option maxHeartbeats 40000000 in
/-- A fold that is selected. -/
theorem selected_fold (k : Nat) (l l2 : List UInt8) (b c p p1 p2 p3 p4 s4 p5 p6 p7 s7 p9 : Nat) (A : Option Addr) (rs : List Int) (w : World) (hk : k < 4) (hl : l.length ≤ 1000) (hc : FoldC rs k p p1 p2 p3) (he : FoldE rs l p5 p6 p7 s7 p9) (hl2 : l2.length ≤ 1000) (hst : markAt rs p3 ⟨#[42]⟩ = false ∧ markTo rs p3 ⟨#[42]⟩ = p4) (hn4 : NC rs p4 s4 l2) (h5 : s4 + 1 + l2.length = p5) (h : Sc w b A c rs p) :
    Calls Tryz.prog 96 #[.agg #[.pointer (some ⟨b, 0, none⟩)]] w (ScPost w b A c rs p9 (.agg #[.string ⟨l.toArray⟩, .string (folds.getD k ByteArray.empty), .string ⟨l2.toArray⟩])) := by
  have hf : Fr (fun _ => False) w ((w.alloc (.cells #[.pointer (some ⟨b, 0, none⟩)] 108)).alloc (.cells #[.string ⟨#[]⟩, .string ⟨#[]⟩, .string ⟨#[]⟩] 176)) := ((Fr.refl _ _).alloc _).alloc _
  have hx := Blk.new w 108 #[.pointer (some ⟨b, 0, none⟩)]
  have hy := Blk.new (w.alloc (.cells #[.pointer (some ⟨b, 0, none⟩)] 108)) 176 #[.string ⟨#[]⟩, .string ⟨#[]⟩, .string ⟨#[]⟩]
  rw [show (w.alloc (.cells #[.pointer (some ⟨b, 0, none⟩)] 108)).heap.size = w.heap.size + 1 by simp] at hy
  have hx := hx.alloc (.cells #[.string ⟨#[]⟩, .string ⟨#[]⟩, .string ⟨#[]⟩] 176)
  have HX := Lib.hid hx
  have HY := Lib.hid hy
  have HF := Lib.hid hf
  have HS := Lib.hid (h.frF hf)
  have hbl := h.blk.lt
  have HM1 := Lib.hid (fun w1 h1 => mark_sc ⟨#[40]⟩ b c p A rs w1 (ascii_of (by decide)) (by decide) h1)
  rw [hc.1.1, hc.1.2] at HM1
  have HO := Lib.hid (fun B N nc w1 h1 hr => one_sc folds k b c p1 B A N nc rs w1 folds_good (by decide) (show k < folds.length from hk) hc.2.1 hc.2.2.1 hc.2.2.2.1 p2 hc.2.2.2.2.1 h1 hr)
  have HM2 := Lib.hid (fun w1 h1 => must_sc ⟨#[40]⟩ b c p2 p3 A rs w1 (ascii_of (by decide)) (by decide) hc.2.2.2.2.2.1 hc.2.2.2.2.2.2 h1)
  have HM3 := Lib.hid (fun w1 h1 => mark_sc ⟨#[42]⟩ b c p3 A rs w1 (ascii_of (by decide)) (by decide) h1)
  rw [hst.1, hst.2] at HM3
  have HV4 := Lib.hid (fun w1 h1 => variable_sc l2 b c p4 s4 A rs w1 hl2 hn4.1 hn4.name h1)
  rw [h5] at HV4
  generalize (⟨l2.toArray⟩ : ByteArray) = t2 at *
  have HM4 := Lib.hid (fun w1 h1 => must_sc ⟨#[41]⟩ b c p5 p6 A rs w1 (ascii_of (by decide)) (by decide) he.1.1 he.1.2 h1)
  have HN := Lib.hid (fun w1 h1 => need_sc tAS b c p6 p7 A rs w1 (ascii_of (by decide)) (by decide) he.2.1.1 he.2.1.2 h1)
  have HV := Lib.hid (fun w1 h1 => variable_sc l b c p7 s7 A rs w1 hl he.2.2.1.1 he.2.2.1.name h1)
  have HM5 := Lib.hid (fun w1 h1 => must_sc ⟨#[41]⟩ b c (s7 + 1 + l.length) p9 A rs w1 (ascii_of (by decide)) (by decide) he.2.2.2.1 he.2.2.2.2 h1)
  have hne := folds_ne k hk
  have hT1 := hne.1
  have hT2 := hne.2
  generalize (⟨l.toArray⟩ : ByteArray) = t at *
  generalize s7 + 1 + l.length = p8 at *
  generalize hTT : folds.getD k ByteArray.empty = T at *
  unfold tAS at HN
  unfold folds at HO
  simp only [List.length_cons, List.length_nil, Nat.zero_add, List.map_cons, List.map_nil] at HO
  clear h hf hx hy hc he hst hk hne hTT hl hn4 h5 hl2
  go_enter Tryz.func96, Tryz.ntmps96
  go_wp2_with fail
  refine (HM1.out _ HS.out).mono ?_
  rintro e w1 ⟨rfl, hs1, hf1⟩
  have hx1 := HX.out.fr hf1 (fun e => by omega)
  have x1 : w1.cell? ⟨w.heap.size, 0, none⟩ = some (.pointer (some ⟨b, 0, none⟩)) := hx1.cell 0
  have HX1 := Lib.hid hx1
  have HY1 := Lib.hid (HY.out.fr hf1 (fun e => by omega))
  have HS1 := Lib.hid hs1
  have HF1 := Lib.hid ((HF.out.mono (T := fun j => j = b) (fun _ _ h => h.elim)).trans' hf1)
  clear hs1 hf1 hx1
  have hfa : Fr (fun _ => False) w1 (w1.alloc (.cells #[.string ⟨#[67, 79, 85, 78, 84]⟩, .string ⟨#[83, 85, 77]⟩, .string ⟨#[77, 73, 78]⟩, .string ⟨#[77, 65, 88]⟩] 9)) := (Fr.refl _ _).alloc _
  obtain ⟨w2, hw2⟩ : ∃ w2, w2 = w1.alloc (.cells #[.string ⟨#[67, 79, 85, 78, 84]⟩, .string ⟨#[83, 85, 77]⟩, .string ⟨#[77, 73, 78]⟩, .string ⟨#[77, 65, 88]⟩] 9) := ⟨_, rfl⟩
  obtain ⟨nb, hnb⟩ : ∃ nb, nb = w1.heap.size := ⟨_, rfl⟩
  have hm := Blk.new w1 9 #[.string ⟨#[67, 79, 85, 78, 84]⟩, .string ⟨#[83, 85, 77]⟩, .string ⟨#[77, 73, 78]⟩, .string ⟨#[77, 65, 88]⟩]
  have hrow := World.ownsRow_lit (base := 0) (e := 9) (size := 1) w1 #[.string ⟨#[67, 79, 85, 78, 84]⟩, .string ⟨#[83, 85, 77]⟩, .string ⟨#[77, 73, 78]⟩, .string ⟨#[77, 65, 88]⟩] 4 (Nat.zero_le _) (by decide) rfl
  rw [← hw2] at hfa hm
  rw [← hnb] at hm
  rw [← hw2, ← hnb] at hrow
  have hbnb : b < nb := by have := HX1.out.lt; omega
  have hcnb : w.heap.size + 2 ≤ nb := by have := HY1.out.lt; omega
  have hszz : w.heap.size + 1 < w1.heap.size := by have := HY1.out.lt; omega
  have hszy : w.heap.size < w1.heap.size := by omega
  have hx2 := HX1.out.fr hfa (fun h => h)
  have x2 : w2.cell? ⟨w.heap.size, 0, none⟩ = some (.pointer (some ⟨b, 0, none⟩)) := hx2.cell 0
  have HX2 := Lib.hid hx2
  have HY2 := Lib.hid (HY1.out.fr hfa (fun h => h))
  have HS2 := Lib.hid (HS1.out.frF hfa)
  have HF2 := Lib.hid (HF1.out.trans hfa (fun _ _ h => h.elim))
  have HRW := Lib.hid hrow
  clear hrow
  clear hfa hm hx2
  go_wp2_with fail
  rw [← hw2, ← hnb]
  clear hw2 hnb hszz hszy x1
  refine (HO.out 0 (some ⟨nb, 0, none⟩) 4 _ HS2.out HRW.out).mono ?_
  rintro e w3 ⟨rfl, hs3, hf3⟩
  have hx3 := HX2.out.fr hf3 (fun e => by omega)
  have x3 : w3.cell? ⟨w.heap.size, 0, none⟩ = some (.pointer (some ⟨b, 0, none⟩)) := hx3.cell 0
  have HX3 := Lib.hid hx3
  have HY3 := Lib.hid (HY2.out.fr hf3 (fun e => by omega))
  have HS3 := Lib.hid hs3
  have HF3 := Lib.hid (HF2.out.trans' hf3)
  clear hs3 hf3 hx3 x2
  have hfa : Fr (fun _ => False) w3 (w3.alloc (.cells #[.string ⟨#[]⟩, .string T, .string ⟨#[42]⟩] 176)) := (Fr.refl _ _).alloc _
  obtain ⟨w4, hw4⟩ : ∃ w4, w4 = w3.alloc (.cells #[.string ⟨#[]⟩, .string T, .string ⟨#[42]⟩] 176) := ⟨_, rfl⟩
  obtain ⟨mb, hmb⟩ : ∃ mb, mb = w3.heap.size := ⟨_, rfl⟩
  have hm := Blk.new w3 176 #[.string ⟨#[]⟩, .string T, .string ⟨#[42]⟩]
  rw [← hw4] at hfa hm
  rw [← hmb] at hm
  have hbmb : b < mb := by have := HX3.out.lt; omega
  have hcmb : w.heap.size + 2 ≤ mb := by have := HY3.out.lt; omega
  have hszz : w.heap.size + 1 < w3.heap.size := by have := HY3.out.lt; omega
  have hszy : w.heap.size < w3.heap.size := by omega
  have HQ4 := Lib.hid hm
  have hx4 := HX3.out.fr hfa (fun h => h)
  have x4 : w4.cell? ⟨w.heap.size, 0, none⟩ = some (.pointer (some ⟨b, 0, none⟩)) := hx4.cell 0
  have HX4 := Lib.hid hx4
  have HY4 := Lib.hid (HY3.out.fr hfa (fun h => h))
  have HS4 := Lib.hid (HS3.out.frF hfa)
  have HF4 := Lib.hid (HF3.out.trans hfa (fun _ _ h => h.elim))
  clear hfa hm hx4
  go_wp2_with fail
  rw [← hw4, ← hmb]
  clear hw4 hmb hszz hszy x3
  refine (HM2.out _ HS4.out).mono ?_
  rintro e w5 ⟨rfl, hs5, hf5⟩
  have hx5 := HX4.out.fr hf5 (fun e => by omega)
  have x5 : w5.cell? ⟨w.heap.size, 0, none⟩ = some (.pointer (some ⟨b, 0, none⟩)) := hx5.cell 0
  have HX5 := Lib.hid hx5
  have HY5 := Lib.hid (HY4.out.fr hf5 (fun e => by omega))
  have HQ5 := Lib.hid (HQ4.out.fr hf5 (fun e => by omega))
  have HS5 := Lib.hid hs5
  have HF5 := Lib.hid (HF4.out.trans' hf5)
  clear hs5 hf5 hx5 x4
  go_wp2_with fail
  refine (HM3.out _ HS5.out).mono ?_
  rintro e w6 ⟨rfl, hs6, hf6⟩
  have hx6 := HX5.out.fr hf6 (fun e => by omega)
  have x6 : w6.cell? ⟨w.heap.size, 0, none⟩ = some (.pointer (some ⟨b, 0, none⟩)) := hx6.cell 0
  have HX6 := Lib.hid hx6
  have HY6 := Lib.hid (HY5.out.fr hf6 (fun e => by omega))
  have HQ6 := Lib.hid (HQ5.out.fr hf6 (fun e => by omega))
  have HS6 := Lib.hid hs6
  have HF6 := Lib.hid (HF5.out.trans' hf6)
  clear hs6 hf6 hx6 x5
  go_wp2_with fail
  refine (HV4.out _ HS6.out).mono ?_
  rintro e w7 ⟨rfl, hs7, hf7⟩
  have hx7 := HX6.out.fr hf7 (fun e => by omega)
  have x7 : w7.cell? ⟨w.heap.size, 0, none⟩ = some (.pointer (some ⟨b, 0, none⟩)) := hx7.cell 0
  have HX7 := Lib.hid hx7
  have HY7 := Lib.hid (HY6.out.fr hf7 (fun e => by omega))
  have HQ7 := Lib.hid (HQ6.out.fr hf7 (fun e => by omega))
  have HS7 := Lib.hid hs7
  have HF7 := Lib.hid (HF6.out.trans' hf7)
  clear hs7 hf7 hx7 x6
  have hm := HQ7.out
  have oc : w7.cell? ⟨mb, 2, none⟩ = some (.string ⟨#[42]⟩) := hm.cell 2
  have of := hm.frozen 2
  have ol := hm.lt
  have FS : Fr (fun j => j = mb) w7 (w7.setCell ⟨mb, 2, none⟩ (.string t2)) := (Fr.refl (fun j => j = mb) w7).setCell ⟨mb, 2, none⟩ (fun _ => rfl) _
  obtain ⟨w8, hw8⟩ : ∃ w8, w8 = w7.setCell ⟨mb, 2, none⟩ (.string t2) := ⟨_, rfl⟩
  have hm2 : Blk (w7.setCell ⟨mb, 2, none⟩ (.string t2)) mb 176 #[.string ⟨#[]⟩, .string T, .string t2] := hm.set_ 2 (.string t2)
  have hxr : (w7.setCell ⟨mb, 2, none⟩ (.string t2)).cell? ⟨w.heap.size, 0, none⟩ = some (.pointer (some ⟨b, 0, none⟩)) := (HX7.out.fr FS (fun e => by omega)).cell 0
  have hxc : w7.cell? ⟨w.heap.size, 0, none⟩ = some (.pointer (some ⟨b, 0, none⟩)) := HX7.out.cell 0
  have hne : ¬ mb = w.heap.size := by omega
  rw [← hw8] at FS hm2
  have HQ8 := Lib.hid hm2
  have hx8 := HX7.out.fr FS (fun e => by omega)
  have x8 : w8.cell? ⟨w.heap.size, 0, none⟩ = some (.pointer (some ⟨b, 0, none⟩)) := hx8.cell 0
  have HX8 := Lib.hid hx8
  have HY8 := Lib.hid (HY7.out.fr FS (fun e => by omega))
  have HS8 := Lib.hid (HS7.out.fr FS (fun e => by omega) (fun j hj e => own_blk_ne HS7.out.row hm (by decide) (by rw [hj, e])))
  have HF8 := Lib.hid (HF7.out.trans (T := fun j => j = b ∨ j = mb) (FS.mono (fun _ _ h => .inr h)) (fun j hj h => h.elim id (fun h => absurd hj (by omega))))
  clear hm FS hm2 hx8
  go_wp2_with fail
  rw [← hw8]
  clear hw8 oc of ol hxr hxc hne x7
  refine (HM4.out _ HS8.out).mono ?_
  rintro e w9 ⟨rfl, hs9, hf9⟩
  have hx9 := HX8.out.fr hf9 (fun e => by omega)
  have x9 : w9.cell? ⟨w.heap.size, 0, none⟩ = some (.pointer (some ⟨b, 0, none⟩)) := hx9.cell 0
  have HX9 := Lib.hid hx9
  have HY9 := Lib.hid (HY8.out.fr hf9 (fun e => by omega))
  have HQ9 := Lib.hid (HQ8.out.fr hf9 (fun e => by omega))
  have HS9 := Lib.hid hs9
  have HF9 := Lib.hid (HF8.out.trans' hf9)
  clear hs9 hf9 hx9 x8
  go_wp2_with fail
  refine (HN.out _ HS9.out).mono ?_
  rintro e w10 ⟨rfl, hs10, hf10⟩
  have hx10 := HX9.out.fr hf10 (fun e => by omega)
  have x10 : w10.cell? ⟨w.heap.size, 0, none⟩ = some (.pointer (some ⟨b, 0, none⟩)) := hx10.cell 0
  have HX10 := Lib.hid hx10
  have HY10 := Lib.hid (HY9.out.fr hf10 (fun e => by omega))
  have HQ10 := Lib.hid (HQ9.out.fr hf10 (fun e => by omega))
  have HS10 := Lib.hid hs10
  have HF10 := Lib.hid (HF9.out.trans' hf10)
  clear hs10 hf10 hx10 x9
  go_wp2_with fail
  refine (HV.out _ HS10.out).mono ?_
  rintro e w11 ⟨rfl, hs11, hf11⟩
  have hx11 := HX10.out.fr hf11 (fun e => by omega)
  have x11 : w11.cell? ⟨w.heap.size, 0, none⟩ = some (.pointer (some ⟨b, 0, none⟩)) := hx11.cell 0
  have HX11 := Lib.hid hx11
  have HY11 := Lib.hid (HY10.out.fr hf11 (fun e => by omega))
  have HQ11 := Lib.hid (HQ10.out.fr hf11 (fun e => by omega))
  have HS11 := Lib.hid hs11
  have HF11 := Lib.hid (HF10.out.trans' hf11)
  clear hs11 hf11 hx11 x10
  have hm := HQ11.out
  have oc : w11.cell? ⟨mb, 0, none⟩ = some (.string ⟨#[]⟩) := hm.cell 0
  have of := hm.frozen 0
  have ol := hm.lt
  have FS : Fr (fun j => j = mb) w11 (w11.setCell ⟨mb, 0, none⟩ (.string t)) := (Fr.refl (fun j => j = mb) w11).setCell ⟨mb, 0, none⟩ (fun _ => rfl) _
  obtain ⟨w12, hw12⟩ : ∃ w12, w12 = w11.setCell ⟨mb, 0, none⟩ (.string t) := ⟨_, rfl⟩
  have hm2 : Blk (w11.setCell ⟨mb, 0, none⟩ (.string t)) mb 176 #[.string t, .string T, .string t2] := hm.set_ 0 (.string t)
  have hxr : (w11.setCell ⟨mb, 0, none⟩ (.string t)).cell? ⟨w.heap.size, 0, none⟩ = some (.pointer (some ⟨b, 0, none⟩)) := (HX11.out.fr FS (fun e => by omega)).cell 0
  have hxc : w11.cell? ⟨w.heap.size, 0, none⟩ = some (.pointer (some ⟨b, 0, none⟩)) := HX11.out.cell 0
  have hne : ¬ mb = w.heap.size := by omega
  rw [← hw12] at FS hm2
  have HQ12 := Lib.hid hm2
  have hx12 := HX11.out.fr FS (fun e => by omega)
  have x12 : w12.cell? ⟨w.heap.size, 0, none⟩ = some (.pointer (some ⟨b, 0, none⟩)) := hx12.cell 0
  have HX12 := Lib.hid hx12
  have HY12 := Lib.hid (HY11.out.fr FS (fun e => by omega))
  have HS12 := Lib.hid (HS11.out.fr FS (fun e => by omega) (fun j hj e => own_blk_ne HS11.out.row hm (by decide) (by rw [hj, e])))
  have HF12 := Lib.hid (HF11.out.trans (T := fun j => j = b ∨ j = mb) (FS.mono (fun _ _ h => .inr h)) (fun j hj h => h.elim id (fun h => absurd hj (by omega))))
  clear hm FS hm2 hx12
  go_wp2_with fail
  rw [← hw12]
  clear hw12 oc of ol hxr hxc hne x11
  refine (HM5.out _ HS12.out).mono ?_
  rintro e w13 ⟨rfl, hs13, hf13⟩
  have hx13 := HX12.out.fr hf13 (fun e => by omega)
  have x13 : w13.cell? ⟨w.heap.size, 0, none⟩ = some (.pointer (some ⟨b, 0, none⟩)) := hx13.cell 0
  have HX13 := Lib.hid hx13
  have HY13 := Lib.hid (HY12.out.fr hf13 (fun e => by omega))
  have HQ13 := Lib.hid (HQ12.out.fr hf13 (fun e => by omega))
  have HS13 := Lib.hid hs13
  have HF13 := Lib.hid (HF12.out.trans' hf13)
  clear hs13 hf13 hx13 x12
  have hm9 := HQ13.out
  have p0 : w13.cell? ⟨mb, 0, none⟩ = some (.string t) := hm9.cell 0
  have p1 : w13.cell? ⟨mb, 1, none⟩ = some (.string T) := hm9.cell 1
  have p2 : w13.cell? ⟨mb, 2, none⟩ = some (.string t2) := hm9.cell 2
  clear hm9
  have hy14 := HY13.out
  have hst14 := Blk.setAll (vs := [.string t, .string T, .string t2]) (old := [.string ⟨#[]⟩, .string ⟨#[]⟩, .string ⟨#[]⟩]) hy14 rfl
  have HTH14 := Lib.hid (Blk.there (cs := [.string ⟨#[]⟩, .string ⟨#[]⟩, .string ⟨#[]⟩]) hy14 (n := 3) rfl)
  have HST14 := Lib.hid hst14.1
  have HSS14 := Lib.hid (HS13.out.fr hst14.2 (fun e => by omega) (fun j hj e => own_blk_ne HS13.out.row hy14 (by decide) (by rw [hj, e])))
  have HFF14 := Lib.hid (HF13.out.trans (T := fun j => j = b ∨ j = w.heap.size + 1) (hst14.2.mono (fun _ _ h => .inr h)) (fun j hj h => h.elim id (fun h => absurd hj (by omega))))
  have HONE14 := Lib.hid (show (#[.string t, .string T, .string t2] : Array Value).all (·.oneCell') = true from all_oneCell_toArray (by intro v hv; simp only [List.mem_cons, List.not_mem_nil, or_false] at hv; rcases hv with rfl | rfl | rfl <;> rfl))
  have hlt14 := hy14.lt
  clear hy14 hst14
  go_wp2_with (refine wpList_store_mid rfl 176 _ _ rfl _ _ _ rfl rfl HTH14.out inf176 HONE14.out ?_)
  exact bodyPost_ret (v := .agg #[.string t, .string T, .string t2]) (results_cell_row rfl _ _ (w.heap.size + 1) 176 _ (0, 0) _ rfl HST14.out Tryz.underlying176 rfl (by kernel_rfl)) rfl ⟨rfl, HSS14.out, HFF14.out⟩

/-- The text of a query that counts. -/
def cntT : ByteArray := ⟨#[82, 69, 71, 73, 83, 84, 69, 82, 32, 82, 83, 84, 82, 69, 65, 77, 32, 60, 117, 58, 111, 62, 32, 65, 83, 32, 83, 69, 76, 69, 67, 84, 32, 40, 67, 79, 85, 78, 84, 40, 42, 41, 32, 65, 83, 32, 63, 110, 41, 32, 87, 72, 69, 82, 69, 32, 123, 32, 63, 97, 32, 63, 98, 32, 63, 99, 32, 46, 32, 125]⟩
theorem cnt_qc : QC (txt cntT) [117, 58, 111] false 8 16 17 25 32 33 49 50 55 := by decide +kernel
theorem cnt_fold : FoldC (txt cntT) 0 33 34 39 40 ∧ FoldE (txt cntT) [110] 41 42 45 46 49 ∧ (markAt (txt cntT) 40 ⟨#[42]⟩ = true ∧ markTo (txt cntT) 40 ⟨#[42]⟩ = 41) := by decide +kernel

theorem cnt_grp : (skip (txt cntT) [0] 55 = 56 ∧ peekOf (txt cntT) 56 = 123) ∧ (markAt (txt cntT) (56 + 1) ⟨#[125]⟩ = false ∧ markTo (txt cntT) (56 + 1) ⟨#[125]⟩ = 58) ∧ (skip (txt cntT) [0] 58 = 58 ∧ peekOf (txt cntT) 58 = 63) := by decide +kernel
theorem cnt_abc : NC (txt cntT) 58 58 [97] ∧ (skip (txt cntT) [0] 60 = 61 ∧ peekOf (txt cntT) 61 = 63) ∧ NC (txt cntT) 61 61 [98] ∧ NC (txt cntT) 63 64 [99] := by decide +kernel
theorem cnt_end : (markAt (txt cntT) 66 ⟨#[46]⟩ = true ∧ markTo (txt cntT) 66 ⟨#[46]⟩ = 68) ∧ (markAt (txt cntT) 68 ⟨#[125]⟩ = true ∧ markTo (txt cntT) 68 ⟨#[125]⟩ = 70) ∧ wordAt (txt cntT) 70 tGR = false ∧ skip (txt cntT) [0] (skip (txt cntT) [0] 70) = (txt cntT).length := by decide +kernel
theorem cnt_group (b c : Nat) (A : Option Addr) (w : World) (hg : Sg w) (h : Sc w b A c (txt cntT) 55) : Calls Tryz.prog 99 #[.agg #[.pointer (some ⟨b, 0, none⟩)], .int .i64 40] w (GrpPostG Flat w b A c (txt cntT) 70) := by
  refine group_var ⟨#[97]⟩ ⟨#[98]⟩ ⟨#[99]⟩ 40 (by decide) (by decide) b c 55 56 58 68 70 A _ w cnt_grp.1.1 cnt_grp.1.2 cnt_grp.2.1 (fun w2 hg2 h2 => ?_) cnt_end.2.1 hg h
  refine item_var _ _ _ _ b c 58 68 A _ w2 cnt_grp.2.2.1 cnt_grp.2.2.2 (fun w3 hg3 h3 => ?_) hg2 h2
  exact triple_var _ _ _ b c 58 60 61 63 66 68 A _ w3 (fun w4 h4 => node_var [97] b c _ _ A _ w4 (by decide) cnt_abc.1.1 cnt_abc.1.2.1 cnt_abc.1.name h4) cnt_abc.2.1.1 cnt_abc.2.1.2
    (fun w4 h4 => variable_sc [98] b c _ _ A _ w4 (by decide) cnt_abc.2.2.1.1 cnt_abc.2.2.1.name h4)
    (fun w4 h4 => node_var [99] b c _ _ A _ w4 (by decide) cnt_abc.2.2.2.1 cnt_abc.2.2.2.2.1 cnt_abc.2.2.2.name h4) cnt_end.1 h3

/-- What it selects. -/
def cntV : Value := .agg #[.string ⟨#[110]⟩, .string ⟨#[67, 79, 85, 78, 84]⟩, .string ⟨#[42]⟩]
theorem cnt_parse (w : World) (hg : Sg w) : Calls Tryz.prog 10 #[.string cntT] w (ParsePost (PQs Flat tRS ⟨#[117, 58, 111]⟩ false cntV) w) := by
  refine parse_ok _ (plaw_pqs glaw_flat _ _ _ _) _ _ w (ascii_of (by decide)) (by decide) (by decide) cnt_end.2.2.2 (fun b c A w1 _ hf1 hs1 => ?_)
  have hg1 := hg.frF hf1
  have hb := hs1.blk
  refine (query_sc Flat glaw_flat (txt cntT) [117, 58, 111] false ⟨#[110]⟩ ⟨#[67, 79, 85, 78, 84]⟩ ⟨#[42]⟩ _ _ _ _ _ _ _ _ _ 70 false 0 (cnt_qc.text (by decide) (by decide) uo_good (fun b c A w h => selected_star 0 [110] b c 33 34 39 40 41 42 45 46 49 A _ w (by decide) (by decide) cnt_fold.1 cnt_fold.2.1 cnt_fold.2.2 h)) cnt_end.2.2.1 b c A w1 (fun w2 hf2 h2 => ?_) hs1).mono (fun _ _ h => q_of_query h)
  unfold GrpAny
  simp only [Bool.false_eq_true, if_false]
  exact cnt_group b c A w2 (hg1.frB hb (by decide) hf2) h2

end Go.Proofs.YtebddgdkndmpjaaGreatDoor
