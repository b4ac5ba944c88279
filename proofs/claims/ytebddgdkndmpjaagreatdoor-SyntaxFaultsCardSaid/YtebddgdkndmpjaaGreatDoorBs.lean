/- A path that is an IRI: walked. -/
import Derived.Test.YtebddgdkndmpjaaGreatDoorBr
import Derived.Deep.CutBlock
import Derived.Deep.RegionLawGrows
import Derived.Deep.Cut
import Derived.Deep.CutRange
import Derived.WalkKit
import Derived.WalkLawsBesides
import Derived.WalkSpells
import Derived.Deep.QuietTactic
import Derived.BigRegion
import Derived.BigQuiet
import Derived.Lib.Hide
import Derived.Outline
import Derived.Deep.AppendLies
import Derived.Deep.RegionLaw
import Derived.Deep.RegionWith
import Derived.Deep.RegionHeld3
import Derived.Deep.LoopGhost
import Derived.Deep.DeepFit
import Derived.Laws.ResultCell
import Derived.Laws.RangeAny
import Derived.Deep.MidRow
import Derived.StillTailTactics
import Derived.OpenShut
namespace Go.Proofs.YtebddgdkndmpjaaGreatDoor
set_option linter.unusedVariables false
open Go.RowKit Go

theorem inf40 : (Tryz.prog.info? 40).map (·.size) = some 3 := by kernel_rfl
/-- The signs behind a path's part, as the program keeps them. -/
def Sg (w : World) : Prop := Blk w 10 444 #[.string ⟨#[]⟩, .string ⟨#[]⟩, .string ⟨#[]⟩, .string ⟨#[]⟩, .string ⟨#[42]⟩, .string ⟨#[43]⟩, .string ⟨#[126]⟩]
theorem Sg.frF {w w' : World} (h : Sg w) (hf : Fr (fun _ => False) w w') : Sg w' := Blk.fr h hf (fun h => h)
theorem Sg.frB {w w' : World} {x t : Nat} {cs : Array Value} (h : Sg w) (hx : Blk w x t cs) (ht : ¬ t = 444) (hf : Fr (fun j => j = x) w w') : Sg w' := Blk.fr h hf (fun e => Blk.ne_ h hx (fun e => ht e.symm) e)
theorem Sg.frS {w w' : World} {b c p n : Nat} {A : Option Addr} {rs : List Int} (h : Sg w) (hs : Sc w b A c rs p) (hn : n ≤ w.heap.size) (hf : Fr (fun j => j = b ∨ n ≤ j) w w') (h10 : 10 < n) : Sg w' := Blk.fr h hf (fun e => e.elim (fun e => Blk.ne_ h hs.blk (by decide) e) (fun e => by omega))
theorem mark_no2 {rs : List Int} {p s : Nat} {x : UInt8} (hs : skip rs [0] p = s) (hx : ¬ peekOf rs s = (x.toNat : Int)) : markAt rs p ⟨#[x]⟩ = false ∧ markTo rs p ⟨#[x]⟩ = s := by
  have h1 : markAt rs p ⟨#[x]⟩ = false := by
    unfold markAt
    rw [hs, isAt_one, decide_eq_false hx]
  unfold markTo
  rw [h1, hs]
  exact ⟨rfl, rfl⟩

set_option maxRecDepth 100000 in
set_option maxHeartbeats 4000000 in
/-- A path that is an IRI. -/
theorem atom_iri (l : List UInt8) (b c p s : Nat) (A : Option Addr) (rs : List Int) (w : World) (hl : l ≠ []) (hl2 : l.length ≤ 1000) (hgd : (Tm.iri ⟨l.toArray⟩).good = true) (hs : skip rs [0] p = s) (hs2 : skip rs [0] s = s) (hbd : Body rs s l) (h : Sc w b A c rs p) :
    Calls Tryz.prog 353 #[.agg #[.pointer (some ⟨b, 0, none⟩)]] w (ScPost w b A c rs (s + l.length + 2) (.agg #[.int .i64 0, .string ⟨l.toArray⟩, .slice none 0 0])) := by
  have hf : Fr (fun _ => False) w ((w.alloc (.cells #[.pointer (some ⟨b, 0, none⟩)] 108)).alloc (.cells #[.int .i64 0, .string ⟨#[]⟩, .slice none 0 0] 40)) := ((Fr.refl _ _).alloc _).alloc _
  have hx := Blk.new w 108 #[.pointer (some ⟨b, 0, none⟩)]
  have hy := Blk.new (w.alloc (.cells #[.pointer (some ⟨b, 0, none⟩)] 108)) 40 #[.int .i64 0, .string ⟨#[]⟩, .slice none 0 0]
  rw [show (w.alloc (.cells #[.pointer (some ⟨b, 0, none⟩)] 108)).heap.size = w.heap.size + 1 by simp] at hy
  have hx := hx.alloc (.cells #[.int .i64 0, .string ⟨#[]⟩, .slice none 0 0] 40)
  have HX := Lib.hid hx
  have HY := Lib.hid hy
  have HF := Lib.hid hf
  have HS := Lib.hid (h.frF hf)
  have hbl := h.blk.lt
  have n1 := mark_no2 (x := 40) hs (by rw [hbd.1]; decide)
  have n2 := mark_no2 (x := 94) hs2 (by rw [hbd.1]; decide)
  have HM1 := Lib.hid (fun w1 h1 => mark_sc ⟨#[40]⟩ b c p A rs w1 (ascii_of (by decide)) (by decide) h1)
  rw [n1.1, n1.2] at HM1
  have HM2 := Lib.hid (fun w1 h1 => mark_sc ⟨#[94]⟩ b c s A rs w1 (ascii_of (by decide)) (by decide) h1)
  rw [n2.1, n2.2] at HM2
  have HI := Lib.hid (fun w1 h1 => iri_sc l b c s s A rs w1 hl hl2 hgd hs2 hs2 hbd h1)
  generalize (⟨l.toArray⟩ : ByteArray) = t at *
  generalize s + l.length + 2 = q at *
  clear h hf hx hy n1 n2 hl hl2 hgd hs hs2 hbd
  go_enter Tryz.func353, Tryz.ntmps353
  go_wp2_with fail
  refine (HM1.out _ HS.out).mono ?_
  rintro e w1 ⟨rfl, hs1, hf1⟩
  have hx1 := HX.out.fr hf1 (fun e => by omega)
  have x1 : w1.cell? ⟨w.heap.size, 0, none⟩ = some (.pointer (some ⟨b, 0, none⟩)) := hx1.cell 0
  have HX1 := Lib.hid hx1
  have HY1 := Lib.hid (HY.out.fr hf1 (fun e => by omega))
  have HS1 := Lib.hid hs1
  have HF1 := Lib.hid ((HF.out.mono (T := fun j => j = b) (fun _ _ h => h.elim)).trans' hf1)
  clear hs1 hf1 hx1
  go_wp2_with fail
  refine (HM2.out _ HS1.out).mono ?_
  rintro e w2 ⟨rfl, hs2, hf2⟩
  have hx2 := HX1.out.fr hf2 (fun e => by omega)
  have x2 : w2.cell? ⟨w.heap.size, 0, none⟩ = some (.pointer (some ⟨b, 0, none⟩)) := hx2.cell 0
  have HX2 := Lib.hid hx2
  have HY2 := Lib.hid (HY1.out.fr hf2 (fun e => by omega))
  have HS2 := Lib.hid hs2
  have HF2 := Lib.hid (HF1.out.trans' hf2)
  clear hs2 hf2 hx2 x1
  go_wp2_with fail
  refine (HI.out _ HS2.out).mono ?_
  rintro e w3 ⟨rfl, hs3, hf3⟩
  have hx3 := HX2.out.fr hf3 (fun e => by omega)
  have x3 : w3.cell? ⟨w.heap.size, 0, none⟩ = some (.pointer (some ⟨b, 0, none⟩)) := hx3.cell 0
  have HX3 := Lib.hid hx3
  have HY3 := Lib.hid (HY2.out.fr hf3 (fun e => by omega))
  have HS3 := Lib.hid hs3
  have HF3 := Lib.hid (HF2.out.trans' hf3)
  clear hs3 hf3 hx3 x2
  have hy4 := HY3.out
  have hst4 := Blk.setAll (vs := [.int .i64 0, .string t, .slice none 0 0]) (old := [.int .i64 0, .string ⟨#[]⟩, .slice none 0 0]) hy4 rfl
  have HTH4 := Lib.hid (Blk.there (cs := [.int .i64 0, .string ⟨#[]⟩, .slice none 0 0]) hy4 (n := 3) rfl)
  have HST4 := Lib.hid hst4.1
  have HSS4 := Lib.hid (HS3.out.fr hst4.2 (fun e => by omega) (fun j hj e => own_blk_ne HS3.out.row hy4 (by decide) (by rw [hj, e])))
  have HFF4 := Lib.hid (HF3.out.trans (T := fun j => j = b ∨ j = w.heap.size + 1) (hst4.2.mono (fun _ _ h => .inr h)) (fun j hj h => h.elim id (fun h => absurd hj (by omega))))
  have HONE4 := Lib.hid (show (#[.int .i64 0, .string t, .slice none 0 0] : Array Value).all (·.oneCell') = true from all_oneCell_toArray (by intro v hv; simp only [List.mem_cons, List.not_mem_nil, or_false] at hv; rcases hv with rfl | rfl | rfl <;> rfl))
  have hlt4 := hy4.lt
  clear hy4 hst4
  go_wp2_with (refine wpList_store_mid rfl 40 _ _ rfl _ _ _ rfl rfl HTH4.out inf40 HONE4.out ?_)
  exact bodyPost_ret (v := .agg #[.int .i64 0, .string t, .slice none 0 0]) (results_cell_row rfl _ _ (w.heap.size + 1) 40 _ (0, 0) _ rfl HST4.out Tryz.underlying40 rfl (by kernel_rfl)) rfl ⟨rfl, HSS4.out, HFF4.out⟩

theorem ix444_0 (w : World) : (Instr.index 444 (.agg #[.string ⟨#[]⟩, .string ⟨#[]⟩, .string ⟨#[]⟩, .string ⟨#[]⟩, .string ⟨#[42]⟩, .string ⟨#[43]⟩, .string ⟨#[126]⟩]) (.int .i64 0)).run Tryz.prog w = .ok (.string ⟨#[]⟩) w := by kernel_rfl
theorem ix444_1 (w : World) : (Instr.index 444 (.agg #[.string ⟨#[]⟩, .string ⟨#[]⟩, .string ⟨#[]⟩, .string ⟨#[]⟩, .string ⟨#[42]⟩, .string ⟨#[43]⟩, .string ⟨#[126]⟩]) (.int .i64 1)).run Tryz.prog w = .ok (.string ⟨#[]⟩) w := by kernel_rfl
theorem ix444_2 (w : World) : (Instr.index 444 (.agg #[.string ⟨#[]⟩, .string ⟨#[]⟩, .string ⟨#[]⟩, .string ⟨#[]⟩, .string ⟨#[42]⟩, .string ⟨#[43]⟩, .string ⟨#[126]⟩]) (.int .i64 2)).run Tryz.prog w = .ok (.string ⟨#[]⟩) w := by kernel_rfl
theorem ix444_3 (w : World) : (Instr.index 444 (.agg #[.string ⟨#[]⟩, .string ⟨#[]⟩, .string ⟨#[]⟩, .string ⟨#[]⟩, .string ⟨#[42]⟩, .string ⟨#[43]⟩, .string ⟨#[126]⟩]) (.int .i64 3)).run Tryz.prog w = .ok (.string ⟨#[]⟩) w := by kernel_rfl
theorem ix444_4 (w : World) : (Instr.index 444 (.agg #[.string ⟨#[]⟩, .string ⟨#[]⟩, .string ⟨#[]⟩, .string ⟨#[]⟩, .string ⟨#[42]⟩, .string ⟨#[43]⟩, .string ⟨#[126]⟩]) (.int .i64 4)).run Tryz.prog w = .ok (.string ⟨#[42]⟩) w := by kernel_rfl
theorem ix444_5 (w : World) : (Instr.index 444 (.agg #[.string ⟨#[]⟩, .string ⟨#[]⟩, .string ⟨#[]⟩, .string ⟨#[]⟩, .string ⟨#[42]⟩, .string ⟨#[43]⟩, .string ⟨#[126]⟩]) (.int .i64 5)).run Tryz.prog w = .ok (.string ⟨#[43]⟩) w := by kernel_rfl
theorem ix444_6 (w : World) : (Instr.index 444 (.agg #[.string ⟨#[]⟩, .string ⟨#[]⟩, .string ⟨#[]⟩, .string ⟨#[]⟩, .string ⟨#[42]⟩, .string ⟨#[43]⟩, .string ⟨#[126]⟩]) (.int .i64 6)).run Tryz.prog w = .ok (.string ⟨#[126]⟩) w := by kernel_rfl
attribute [local go_sem] ix444_0 ix444_1 ix444_2 ix444_3 ix444_4 ix444_5 ix444_6
set_option maxRecDepth 100000 in
set_option maxHeartbeats 4000000 in
/-- A path that is an IRI, once. -/
theorem step_iri (l : List UInt8) (b c p s s2 : Nat) (A : Option Addr) (rs : List Int) (w : World) (hl : l ≠ []) (hl2 : l.length ≤ 1000) (hgd : (Tm.iri ⟨l.toArray⟩).good = true) (hs : skip rs [0] p = s) (hs2 : skip rs [0] s = s) (hbd : Body rs s l) (hq : skip rs [0] (s + l.length + 2) = s2) (hq2 : skip rs [0] s2 = s2) (hno : ¬ peekOf rs s2 = 42 ∧ ¬ peekOf rs s2 = 43 ∧ ¬ peekOf rs s2 = 126) (hg : Sg w) (h : Sc w b A c rs p) :
    Calls Tryz.prog 331 #[.agg #[.pointer (some ⟨b, 0, none⟩)]] w (ScPost w b A c rs s2 (.agg #[.int .i64 0, .string ⟨l.toArray⟩, .slice none 0 0])) := by
  have hf : Fr (fun _ => False) w ((w.alloc (.cells #[.pointer (some ⟨b, 0, none⟩)] 108)).alloc (.cells #[.int .i64 0, .string ⟨#[]⟩, .slice none 0 0] 40)) := ((Fr.refl _ _).alloc _).alloc _
  have hx := Blk.new w 108 #[.pointer (some ⟨b, 0, none⟩)]
  have hy := Blk.new (w.alloc (.cells #[.pointer (some ⟨b, 0, none⟩)] 108)) 40 #[.int .i64 0, .string ⟨#[]⟩, .slice none 0 0]
  rw [show (w.alloc (.cells #[.pointer (some ⟨b, 0, none⟩)] 108)).heap.size = w.heap.size + 1 by simp] at hy
  have hx := hx.alloc (.cells #[.int .i64 0, .string ⟨#[]⟩, .slice none 0 0] 40)
  have HX := Lib.hid hx
  have HY := Lib.hid hy
  have HF := Lib.hid hf
  have HS := Lib.hid (h.frF hf)
  have hbl := h.blk.lt
  have n1 := mark_no2 (x := 42) hq hno.1
  have n2 := mark_no2 (x := 43) hq2 hno.2.1
  have n3 := mark_no2 (x := 126) hq2 hno.2.2
  have HM1 := Lib.hid (fun w1 h1 => mark_sc ⟨#[42]⟩ b c (s + l.length + 2) A rs w1 (ascii_of (by decide)) (by decide) h1)
  rw [n1.1, n1.2] at HM1
  have HM2 := Lib.hid (fun w1 h1 => mark_sc ⟨#[43]⟩ b c s2 A rs w1 (ascii_of (by decide)) (by decide) h1)
  rw [n2.1, n2.2] at HM2
  have HM3 := Lib.hid (fun w1 h1 => mark_sc ⟨#[126]⟩ b c s2 A rs w1 (ascii_of (by decide)) (by decide) h1)
  rw [n3.1, n3.2] at HM3
  have HA := Lib.hid (fun w1 h1 => atom_iri l b c p s A rs w1 hl hl2 hgd hs hs2 hbd h1)
  have HSG := Lib.hid (hg.frF hf)
  generalize (⟨l.toArray⟩ : ByteArray) = t at *
  generalize s + l.length + 2 = q at *
  clear h hf hx hy n1 n2 n3 hq hq2 hno hg hl hl2 hgd hs hs2 hbd
  go_enter Tryz.func331, Tryz.ntmps331
  go_wp2_with fail
  refine (HA.out _ HS.out).mono ?_
  rintro e w1 ⟨rfl, hs1, hf1⟩
  have hx1 := HX.out.fr hf1 (fun e => by omega)
  have x1 : w1.cell? ⟨w.heap.size, 0, none⟩ = some (.pointer (some ⟨b, 0, none⟩)) := hx1.cell 0
  have HX1 := Lib.hid hx1
  have HY1 := Lib.hid (HY.out.fr hf1 (fun e => by omega))
  have HS1 := Lib.hid hs1
  have HF1 := Lib.hid ((HF.out.mono (T := fun j => j = b) (fun _ _ h => h.elim)).trans' hf1)
  have HSG1 := Lib.hid (HSG.out.frB HS.out.blk (by decide) hf1)
  clear hs1 hf1 hx1
  have hsg := HSG1.out
  have g0 : w1.cell? ⟨10, 0, none⟩ = some (.string ⟨#[]⟩) := hsg.cell 0
  have g1 : w1.cell? ⟨10, 1, none⟩ = some (.string ⟨#[]⟩) := hsg.cell 1
  have g2 : w1.cell? ⟨10, 2, none⟩ = some (.string ⟨#[]⟩) := hsg.cell 2
  have g3 : w1.cell? ⟨10, 3, none⟩ = some (.string ⟨#[]⟩) := hsg.cell 3
  have g4 : w1.cell? ⟨10, 4, none⟩ = some (.string ⟨#[42]⟩) := hsg.cell 4
  have g5 : w1.cell? ⟨10, 5, none⟩ = some (.string ⟨#[43]⟩) := hsg.cell 5
  have g6 : w1.cell? ⟨10, 6, none⟩ = some (.string ⟨#[126]⟩) := hsg.cell 6
  have hgl := Blk.lt hsg
  have HP2 := Lib.hid (Blk.new w1 40 #[.int .i64 0, .string t, .slice none 0 0])
  have hfa : Fr (fun _ => False) w1 (w1.alloc (.cells #[.int .i64 0, .string t, .slice none 0 0] 40)) := (Fr.refl _ _).alloc _
  have HX2 := Lib.hid (HX1.out.fr hfa (fun h => h))
  have HY2 := Lib.hid (HY1.out.fr hfa (fun h => h))
  have HS2 := Lib.hid (HS1.out.frF hfa)
  have HF2 := Lib.hid (HF1.out.trans hfa (fun _ _ h => h.elim))
  have hsz : w.heap.size + 1 < w1.heap.size := HY1.out.lt
  have hbp : b < w1.heap.size := by omega
  clear hfa hsg
  obtain ⟨w2, hw2⟩ : ∃ w2, w2 = w1.alloc (.cells #[.int .i64 0, .string t, .slice none 0 0] 40) := ⟨_, rfl⟩
  obtain ⟨pb, hpb⟩ : ∃ pb, pb = w1.heap.size := ⟨_, rfl⟩
  rw [← hw2] at HP2 HX2 HY2 HS2 HF2
  rw [← hpb] at HP2 hsz hbp
  go_wp2_with fail
  rw [← hw2, ← hpb]
  clear hw2 hpb g0 g1 g2 g3 g4 g5 g6 hgl x1 HS1 HX1 HY1 HF1 HSG1
  go_loopw [9] (fun iv wr => ∃ k : Nat, iv = .int .i64 (k : Int) ∧ k ≤ 7 ∧ Sc wr b A c rs (if k ≤ 4 then q else s2) ∧ Fr (fun j => j = b) w2 wr) (fun iv _ => 7 - (intOf iv).toNat)
  case atStart => exact ⟨0, rfl, by omega, HS2.out, Fr.refl _ _⟩
  case round =>
    obtain ⟨k, rfl, hk, hs, hf⟩ := hrel
    have HSr := Lib.hid hs
    have HFr := Lib.hid hf
    clear hs hf
    have hk8 : k = 0 ∨ k = 1 ∨ k = 2 ∨ k = 3 ∨ k = 4 ∨ k = 5 ∨ k = 6 ∨ k = 7 := by omega
    clear hk
    rcases hk8 with rfl | rfl | rfl | rfl | rfl | rfl | rfl | rfl
    · go_wp2_with fail
      go_roundw
      case rel => exact ⟨1, rfl, by omega, HSr.out, HFr.out⟩
      case measure => simp only [intOf]; omega
    · go_wp2_with fail
      go_roundw
      case rel => exact ⟨2, rfl, by omega, HSr.out, HFr.out⟩
      case measure => simp only [intOf]; omega
    · go_wp2_with fail
      go_roundw
      case rel => exact ⟨3, rfl, by omega, HSr.out, HFr.out⟩
      case measure => simp only [intOf]; omega
    · go_wp2_with fail
      go_roundw
      case rel => exact ⟨4, rfl, by omega, HSr.out, HFr.out⟩
      case measure => simp only [intOf]; omega
    · have xr : wr.cell? ⟨w.heap.size, 0, none⟩ = some (.pointer (some ⟨b, 0, none⟩)) := (HX2.out.fr HFr.out (fun e => by omega)).cell 0
      go_wp2_with fail
      refine (HM1.out _ HSr.out).mono ?_
      rintro e w3 ⟨rfl, hs3, hf3⟩
      have HS3 := Lib.hid hs3
      have HF3 := Lib.hid (HFr.out.trans' hf3)
      clear hs3 hf3
      go_wp2_with fail
      go_roundw
      case rel => exact ⟨5, rfl, by omega, HS3.out, HF3.out⟩
      case measure => simp only [intOf]; omega
    · have xr : wr.cell? ⟨w.heap.size, 0, none⟩ = some (.pointer (some ⟨b, 0, none⟩)) := (HX2.out.fr HFr.out (fun e => by omega)).cell 0
      go_wp2_with fail
      refine (HM2.out _ HSr.out).mono ?_
      rintro e w3 ⟨rfl, hs3, hf3⟩
      have HS3 := Lib.hid hs3
      have HF3 := Lib.hid (HFr.out.trans' hf3)
      clear hs3 hf3
      go_wp2_with fail
      go_roundw
      case rel => exact ⟨6, rfl, by omega, HS3.out, HF3.out⟩
      case measure => simp only [intOf]; omega
    · have xr : wr.cell? ⟨w.heap.size, 0, none⟩ = some (.pointer (some ⟨b, 0, none⟩)) := (HX2.out.fr HFr.out (fun e => by omega)).cell 0
      go_wp2_with fail
      refine (HM3.out _ HSr.out).mono ?_
      rintro e w3 ⟨rfl, hs3, hf3⟩
      have HS3 := Lib.hid hs3
      have HF3 := Lib.hid (HFr.out.trans' hf3)
      clear hs3 hf3
      go_wp2_with fail
      go_roundw
      case rel => exact ⟨7, rfl, by omega, HS3.out, HF3.out⟩
      case measure => simp only [intOf]; omega
    · have hp7 := HP2.out.fr HFr.out (fun e => by omega)
      have p0 : wr.cell? ⟨pb, 0, none⟩ = some (.int .i64 0) := hp7.cell 0
      have p1 : wr.cell? ⟨pb, 1, none⟩ = some (.string t) := hp7.cell 1
      have p2 : wr.cell? ⟨pb, 2, none⟩ = some (.slice none 0 0) := hp7.cell 2
      have HY3 := Lib.hid (HY2.out.fr HFr.out (fun e => by omega))
      have HS3 := Lib.hid (show Sc wr b A c rs s2 from HSr.out)
      have HF3 := Lib.hid (HF2.out.trans' HFr.out)
      clear hp7
      have hy4 := HY3.out
      have hst4 := Blk.setAll (vs := [.int .i64 0, .string t, .slice none 0 0]) (old := [.int .i64 0, .string ⟨#[]⟩, .slice none 0 0]) hy4 rfl
      have HTH4 := Lib.hid (Blk.there (cs := [.int .i64 0, .string ⟨#[]⟩, .slice none 0 0]) hy4 (n := 3) rfl)
      have HST4 := Lib.hid hst4.1
      have HSS4 := Lib.hid (HS3.out.fr hst4.2 (fun e => by omega) (fun j hj e => own_blk_ne HS3.out.row hy4 (by decide) (by rw [hj, e])))
      have HFF4 := Lib.hid (HF3.out.trans (T := fun j => j = b ∨ j = w.heap.size + 1) (hst4.2.mono (fun _ _ h => .inr h)) (fun j hj h => h.elim id (fun h => absurd hj (by omega))))
      have HONE4 := Lib.hid (show (#[.int .i64 0, .string t, .slice none 0 0] : Array Value).all (·.oneCell') = true from all_oneCell_toArray (by intro v hv; simp only [List.mem_cons, List.not_mem_nil, or_false] at hv; rcases hv with rfl | rfl | rfl <;> rfl))
      have hlt4 := hy4.lt
      clear hy4 hst4
      go_wp2_with (refine wpList_store_mid rfl 40 _ _ rfl _ _ _ rfl rfl HTH4.out inf40 HONE4.out ?_)
      exact bodyPost_ret (v := .agg #[.int .i64 0, .string t, .slice none 0 0]) (results_cell_row rfl _ _ (w.heap.size + 1) 40 _ (0, 0) _ rfl HST4.out Tryz.underlying40 rfl (by kernel_rfl)) rfl ⟨rfl, HSS4.out, HFF4.out⟩

set_option maxRecDepth 100000 in
set_option maxHeartbeats 4000000 in
/-- Paths one behind the other: one IRI. -/
theorem seq_iri (l : List UInt8) (b c p s s2 : Nat) (A : Option Addr) (rs : List Int) (w : World) (hl : l ≠ []) (hl2 : l.length ≤ 1000) (hgd : (Tm.iri ⟨l.toArray⟩).good = true) (hs : skip rs [0] p = s) (hs2 : skip rs [0] s = s) (hbd : Body rs s l) (hq : skip rs [0] (s + l.length + 2) = s2) (hq2 : skip rs [0] s2 = s2) (hno : ¬ peekOf rs s2 = 42 ∧ ¬ peekOf rs s2 = 43 ∧ ¬ peekOf rs s2 = 126) (h47 : ¬ peekOf rs s2 = 47) (hg : Sg w) (h : Sc w b A c rs p) :
    Calls Tryz.prog 329 #[.agg #[.pointer (some ⟨b, 0, none⟩)], .int .i64 2, .string ⟨#[47]⟩, .func (.func 331) #[.agg #[.pointer (some ⟨b, 0, none⟩)]] #[]] w (ScPost w b A c rs s2 (.agg #[.int .i64 0, .string ⟨l.toArray⟩, .slice none 0 0])) := by
  have hf : Fr (fun _ => False) w ((w.alloc (.cells #[.pointer (some ⟨b, 0, none⟩)] 108)).alloc (.cells #[.int .i64 0, .string ⟨#[]⟩, .slice none 0 0] 40)) := ((Fr.refl _ _).alloc _).alloc _
  have hx := Blk.new w 108 #[.pointer (some ⟨b, 0, none⟩)]
  have hy := Blk.new (w.alloc (.cells #[.pointer (some ⟨b, 0, none⟩)] 108)) 40 #[.int .i64 0, .string ⟨#[]⟩, .slice none 0 0]
  rw [show (w.alloc (.cells #[.pointer (some ⟨b, 0, none⟩)] 108)).heap.size = w.heap.size + 1 by simp] at hy
  have hx := hx.alloc (.cells #[.int .i64 0, .string ⟨#[]⟩, .slice none 0 0] 40)
  have HX := Lib.hid hx
  have HY := Lib.hid hy
  have HF := Lib.hid hf
  have HS := Lib.hid (h.frF hf)
  have hbl := h.blk.lt
  have n1 := mark_no2 (x := 47) hq2 h47
  have HM1 := Lib.hid (fun w1 h1 => mark_sc ⟨#[47]⟩ b c s2 A rs w1 (ascii_of (by decide)) (by decide) h1)
  rw [n1.1, n1.2] at HM1
  have HA := Lib.hid (step_iri l b c p s s2 A rs _ hl hl2 hgd hs hs2 hbd hq hq2 hno (hg.frF hf) (h.frF hf))
  generalize (⟨l.toArray⟩ : ByteArray) = t at *
  clear h hf hx hy n1 hq hq2 hno hg h47 hl hl2 hgd hs hs2 hbd
  go_enter Tryz.func329, Tryz.ntmps329
  go_wp2_with fail
  refine (HA.out).mono ?_
  rintro e w1 ⟨rfl, hs1, hf1⟩
  have hx1 := HX.out.fr hf1 (fun e => by omega)
  have x1 : w1.cell? ⟨w.heap.size, 0, none⟩ = some (.pointer (some ⟨b, 0, none⟩)) := hx1.cell 0
  have HX1 := Lib.hid hx1
  have HY1 := Lib.hid (HY.out.fr hf1 (fun e => by omega))
  have HS1 := Lib.hid hs1
  have HF1 := Lib.hid ((HF.out.mono (T := fun j => j = b) (fun _ _ h => h.elim)).trans' hf1)
  clear hs1 hf1 hx1
  have HP2 := Lib.hid (Blk.new w1 40 #[.int .i64 0, .string t, .slice none 0 0])
  have hfa : Fr (fun _ => False) w1 (w1.alloc (.cells #[.int .i64 0, .string t, .slice none 0 0] 40)) := (Fr.refl _ _).alloc _
  have hx2 := HX1.out.fr hfa (fun h => h)
  have x2 : (w1.alloc (.cells #[.int .i64 0, .string t, .slice none 0 0] 40)).cell? ⟨w.heap.size, 0, none⟩ = some (.pointer (some ⟨b, 0, none⟩)) := hx2.cell 0
  have HX2 := Lib.hid hx2
  have HY2 := Lib.hid (HY1.out.fr hfa (fun h => h))
  have HS2 := Lib.hid (HS1.out.frF hfa)
  have HF2 := Lib.hid (HF1.out.trans hfa (fun _ _ h => h.elim))
  have hsz : w.heap.size + 1 < w1.heap.size := HY1.out.lt
  have hbp : b < w1.heap.size := by omega
  clear hfa hx2
  obtain ⟨w2, hw2⟩ : ∃ w2, w2 = w1.alloc (.cells #[.int .i64 0, .string t, .slice none 0 0] 40) := ⟨_, rfl⟩
  obtain ⟨pb, hpb⟩ : ∃ pb, pb = w1.heap.size := ⟨_, rfl⟩
  rw [← hw2] at HP2 HX2 HY2 HS2 HF2 x2
  rw [← hpb] at HP2 hsz hbp
  go_wp2_with fail
  rw [← hw2, ← hpb]
  clear hw2 hpb x1 HS1 HX1 HY1 HF1
  go_loopw [9] (fun v wr => v = .slice (some ⟨pb, 0, none⟩) 1 1 ∧ w2 = wr) (fun _ _ => 0)
  case atStart => exact ⟨rfl, rfl⟩
  case round =>
    obtain ⟨rfl, rfl⟩ := hrel
    go_wp2_with fail
    refine (HM1.out _ HS2.out).mono ?_
    rintro e w3 ⟨rfl, hs3, hf3⟩
    have hp3 := HP2.out.fr hf3 (fun e => by omega)
    have p0 : w3.cell? ⟨pb, 0, none⟩ = some (.int .i64 0) := hp3.cell 0
    have p1 : w3.cell? ⟨pb, 1, none⟩ = some (.string t) := hp3.cell 1
    have p2 : w3.cell? ⟨pb, 2, none⟩ = some (.slice none 0 0) := hp3.cell 2
    have HY3 := Lib.hid (HY2.out.fr hf3 (fun e => by omega))
    have HS3 := Lib.hid hs3
    have HF3 := Lib.hid (HF2.out.trans' hf3)
    clear hp3 hs3 hf3 x2
    have hy4 := HY3.out
    have hst4 := Blk.setAll (vs := [.int .i64 0, .string t, .slice none 0 0]) (old := [.int .i64 0, .string ⟨#[]⟩, .slice none 0 0]) hy4 rfl
    have HTH4 := Lib.hid (Blk.there (cs := [.int .i64 0, .string ⟨#[]⟩, .slice none 0 0]) hy4 (n := 3) rfl)
    have HST4 := Lib.hid hst4.1
    have HSS4 := Lib.hid (HS3.out.fr hst4.2 (fun e => by omega) (fun j hj e => own_blk_ne HS3.out.row hy4 (by decide) (by rw [hj, e])))
    have HFF4 := Lib.hid (HF3.out.trans (T := fun j => j = b ∨ j = w.heap.size + 1) (hst4.2.mono (fun _ _ h => .inr h)) (fun j hj h => h.elim id (fun h => absurd hj (by omega))))
    have HONE4 := Lib.hid (show (#[.int .i64 0, .string t, .slice none 0 0] : Array Value).all (·.oneCell') = true from all_oneCell_toArray (by intro v hv; simp only [List.mem_cons, List.not_mem_nil, or_false] at hv; rcases hv with rfl | rfl | rfl <;> rfl))
    have hlt4 := hy4.lt
    clear hy4 hst4
    go_wp2_with (refine wpList_store_mid rfl 40 _ _ rfl _ _ _ rfl rfl HTH4.out inf40 HONE4.out ?_)
    exact bodyPost_ret (v := .agg #[.int .i64 0, .string t, .slice none 0 0]) (results_cell_row rfl _ _ (w.heap.size + 1) 40 _ (0, 0) _ rfl HST4.out Tryz.underlying40 rfl (by kernel_rfl)) rfl ⟨rfl, HSS4.out, HFF4.out⟩

set_option maxRecDepth 100000 in
set_option maxHeartbeats 4000000 in
theorem row1_iri (l : List UInt8) (b c p s s2 g : Nat) (A : Option Addr) (rs : List Int) (w : World) (hl : l ≠ []) (hl2 : l.length ≤ 1000) (hgd : (Tm.iri ⟨l.toArray⟩).good = true) (hs : skip rs [0] p = s) (hs2 : skip rs [0] s = s) (hbd : Body rs s l) (hq : skip rs [0] (s + l.length + 2) = s2) (hq2 : skip rs [0] s2 = s2) (hno : ¬ peekOf rs s2 = 42 ∧ ¬ peekOf rs s2 = 43 ∧ ¬ peekOf rs s2 = 126) (h47 : ¬ peekOf rs s2 = 47) (hgb : Blk w g 108 #[.pointer (some ⟨b, 0, none⟩)]) (hg : Sg w) (h : Sc w b A c rs p) :
    Calls Tryz.prog 330 #[.pointer (some ⟨g, 0, none⟩)] w (ScPost w b A c rs s2 (.agg #[.int .i64 0, .string ⟨l.toArray⟩, .slice none 0 0])) := by
  have hf : Fr (fun _ => False) w (w.alloc (.cells #[.int .i64 0, .string ⟨#[]⟩, .slice none 0 0] 40)) := (Fr.refl _ _).alloc _
  have HA := Lib.hid (seq_iri l b c p s s2 A rs _ hl hl2 hgd hs hs2 hbd hq hq2 hno h47 (hg.frF hf) (h.frF hf))
  have g0 : (w.alloc (.cells #[.int .i64 0, .string ⟨#[]⟩, .slice none 0 0] 40)).cell? ⟨g, 0, none⟩ = some (.pointer (some ⟨b, 0, none⟩)) := (hgb.fr hf (fun h => h)).cell 0
  have hgl : g < w.heap.size := Blk.lt hgb
  have g1 : w.cell? ⟨g, 0, none⟩ = some (.pointer (some ⟨b, 0, none⟩)) := hgb.cell 0
  have HY := Lib.hid (Blk.new w 40 #[.int .i64 0, .string ⟨#[]⟩, .slice none 0 0])
  have HF := Lib.hid hf
  have hbl := h.blk.lt
  generalize (⟨l.toArray⟩ : ByteArray) = t at *
  clear h hf hq hq2 hno h47 hgb hg hl hl2 hgd hs hs2 hbd
  go_enter Tryz.func330, Tryz.ntmps330
  go_wp2_with fail
  refine HA.out.mono ?_
  rintro e w1 ⟨rfl, hs1, hf1⟩
  have hy1 := HY.out.fr hf1 (fun e => by omega)
  have hst := Blk.setAll (vs := [.int .i64 0, .string t, .slice none 0 0]) (old := [.int .i64 0, .string ⟨#[]⟩, .slice none 0 0]) hy1 rfl
  have HTH := Lib.hid (Blk.there (cs := [.int .i64 0, .string ⟨#[]⟩, .slice none 0 0]) hy1 (n := 3) rfl)
  have HST := Lib.hid hst.1
  have HSS := Lib.hid (hs1.fr hst.2 (fun e => by omega) (fun j hj e => own_blk_ne hs1.row hy1 (by decide) (by rw [hj, e])))
  have HFF := Lib.hid (((HF.out.mono (T := fun j => j = b) (fun _ _ h => h.elim)).trans' hf1).trans (T := fun j => j = b ∨ j = w.heap.size) (hst.2.mono (fun _ _ h => .inr h)) (fun j hj h => h.elim id (fun h => absurd hj (by omega))))
  have HONE := Lib.hid (show (#[.int .i64 0, .string t, .slice none 0 0] : Array Value).all (·.oneCell') = true from all_oneCell_toArray (by intro v hv; simp only [List.mem_cons, List.not_mem_nil, or_false] at hv; rcases hv with rfl | rfl | rfl <;> rfl))
  have hlt := hy1.lt
  clear hy1 hst hs1 hf1 g0
  go_wp2_with (refine wpList_store_mid rfl 40 _ _ rfl _ _ _ rfl rfl HTH.out inf40 HONE.out ?_)
  exact bodyPost_ret (v := .agg #[.int .i64 0, .string t, .slice none 0 0]) (results_cell_row rfl _ _ w.heap.size 40 _ (0, 0) _ rfl HST.out Tryz.underlying40 rfl (by kernel_rfl)) rfl ⟨rfl, HSS.out, HFF.out⟩

set_option maxRecDepth 100000 in
set_option maxHeartbeats 4000000 in
/-- Paths with a bar between: one IRI. -/
theorem alt_iri (l : List UInt8) (b c p s s2 g : Nat) (A : Option Addr) (rs : List Int) (w : World) (hl : l ≠ []) (hl2 : l.length ≤ 1000) (hgd : (Tm.iri ⟨l.toArray⟩).good = true) (hs : skip rs [0] p = s) (hs2 : skip rs [0] s = s) (hbd : Body rs s l) (hq : skip rs [0] (s + l.length + 2) = s2) (hq2 : skip rs [0] s2 = s2) (hno : ¬ peekOf rs s2 = 42 ∧ ¬ peekOf rs s2 = 43 ∧ ¬ peekOf rs s2 = 126) (h124 : ¬ peekOf rs s2 = 124) (h47 : ¬ peekOf rs s2 = 47) (hgb : Blk w g 108 #[.pointer (some ⟨b, 0, none⟩)]) (hg : Sg w) (h : Sc w b A c rs p) :
    Calls Tryz.prog 329 #[.agg #[.pointer (some ⟨b, 0, none⟩)], .int .i64 3, .string ⟨#[124]⟩, .func (.func 330) #[] #[.pointer (some ⟨g, 0, none⟩)]] w (ScPost w b A c rs s2 (.agg #[.int .i64 0, .string ⟨l.toArray⟩, .slice none 0 0])) := by
  have hf : Fr (fun _ => False) w ((w.alloc (.cells #[.pointer (some ⟨b, 0, none⟩)] 108)).alloc (.cells #[.int .i64 0, .string ⟨#[]⟩, .slice none 0 0] 40)) := ((Fr.refl _ _).alloc _).alloc _
  have hx := Blk.new w 108 #[.pointer (some ⟨b, 0, none⟩)]
  have hy := Blk.new (w.alloc (.cells #[.pointer (some ⟨b, 0, none⟩)] 108)) 40 #[.int .i64 0, .string ⟨#[]⟩, .slice none 0 0]
  rw [show (w.alloc (.cells #[.pointer (some ⟨b, 0, none⟩)] 108)).heap.size = w.heap.size + 1 by simp] at hy
  have hx := hx.alloc (.cells #[.int .i64 0, .string ⟨#[]⟩, .slice none 0 0] 40)
  have HX := Lib.hid hx
  have HY := Lib.hid hy
  have HF := Lib.hid hf
  have HS := Lib.hid (h.frF hf)
  have hbl := h.blk.lt
  have n1 := mark_no2 (x := 124) hq2 h124
  have HM1 := Lib.hid (fun w1 h1 => mark_sc ⟨#[124]⟩ b c s2 A rs w1 (ascii_of (by decide)) (by decide) h1)
  rw [n1.1, n1.2] at HM1
  have HA := Lib.hid (row1_iri l b c p s s2 g A rs _ hl hl2 hgd hs hs2 hbd hq hq2 hno h47 (hgb.fr hf (fun h => h)) (hg.frF hf) (h.frF hf))
  generalize (⟨l.toArray⟩ : ByteArray) = t at *
  clear h hf hx hy n1 hq hq2 hno hg h124 hl hl2 hgd hs hs2 hbd hgb
  clear h47
  go_enter Tryz.func329, Tryz.ntmps329
  go_wp2_with fail
  refine (HA.out).mono ?_
  rintro e w1 ⟨rfl, hs1, hf1⟩
  have hx1 := HX.out.fr hf1 (fun e => by omega)
  have x1 : w1.cell? ⟨w.heap.size, 0, none⟩ = some (.pointer (some ⟨b, 0, none⟩)) := hx1.cell 0
  have HX1 := Lib.hid hx1
  have HY1 := Lib.hid (HY.out.fr hf1 (fun e => by omega))
  have HS1 := Lib.hid hs1
  have HF1 := Lib.hid ((HF.out.mono (T := fun j => j = b) (fun _ _ h => h.elim)).trans' hf1)
  clear hs1 hf1 hx1
  have HP2 := Lib.hid (Blk.new w1 40 #[.int .i64 0, .string t, .slice none 0 0])
  have hfa : Fr (fun _ => False) w1 (w1.alloc (.cells #[.int .i64 0, .string t, .slice none 0 0] 40)) := (Fr.refl _ _).alloc _
  have hx2 := HX1.out.fr hfa (fun h => h)
  have x2 : (w1.alloc (.cells #[.int .i64 0, .string t, .slice none 0 0] 40)).cell? ⟨w.heap.size, 0, none⟩ = some (.pointer (some ⟨b, 0, none⟩)) := hx2.cell 0
  have HX2 := Lib.hid hx2
  have HY2 := Lib.hid (HY1.out.fr hfa (fun h => h))
  have HS2 := Lib.hid (HS1.out.frF hfa)
  have HF2 := Lib.hid (HF1.out.trans hfa (fun _ _ h => h.elim))
  have hsz : w.heap.size + 1 < w1.heap.size := HY1.out.lt
  have hbp : b < w1.heap.size := by omega
  clear hfa hx2
  obtain ⟨w2, hw2⟩ : ∃ w2, w2 = w1.alloc (.cells #[.int .i64 0, .string t, .slice none 0 0] 40) := ⟨_, rfl⟩
  obtain ⟨pb, hpb⟩ : ∃ pb, pb = w1.heap.size := ⟨_, rfl⟩
  rw [← hw2] at HP2 HX2 HY2 HS2 HF2 x2
  rw [← hpb] at HP2 hsz hbp
  go_wp2_with fail
  rw [← hw2, ← hpb]
  clear hw2 hpb x1 HS1 HX1 HY1 HF1
  go_loopw [9] (fun v wr => v = .slice (some ⟨pb, 0, none⟩) 1 1 ∧ w2 = wr) (fun _ _ => 0)
  case atStart => exact ⟨rfl, rfl⟩
  case round =>
    obtain ⟨rfl, rfl⟩ := hrel
    go_wp2_with fail
    refine (HM1.out _ HS2.out).mono ?_
    rintro e w3 ⟨rfl, hs3, hf3⟩
    have hp3 := HP2.out.fr hf3 (fun e => by omega)
    have p0 : w3.cell? ⟨pb, 0, none⟩ = some (.int .i64 0) := hp3.cell 0
    have p1 : w3.cell? ⟨pb, 1, none⟩ = some (.string t) := hp3.cell 1
    have p2 : w3.cell? ⟨pb, 2, none⟩ = some (.slice none 0 0) := hp3.cell 2
    have HY3 := Lib.hid (HY2.out.fr hf3 (fun e => by omega))
    have HS3 := Lib.hid hs3
    have HF3 := Lib.hid (HF2.out.trans' hf3)
    clear hp3 hs3 hf3 x2
    have hy4 := HY3.out
    have hst4 := Blk.setAll (vs := [.int .i64 0, .string t, .slice none 0 0]) (old := [.int .i64 0, .string ⟨#[]⟩, .slice none 0 0]) hy4 rfl
    have HTH4 := Lib.hid (Blk.there (cs := [.int .i64 0, .string ⟨#[]⟩, .slice none 0 0]) hy4 (n := 3) rfl)
    have HST4 := Lib.hid hst4.1
    have HSS4 := Lib.hid (HS3.out.fr hst4.2 (fun e => by omega) (fun j hj e => own_blk_ne HS3.out.row hy4 (by decide) (by rw [hj, e])))
    have HFF4 := Lib.hid (HF3.out.trans (T := fun j => j = b ∨ j = w.heap.size + 1) (hst4.2.mono (fun _ _ h => .inr h)) (fun j hj h => h.elim id (fun h => absurd hj (by omega))))
    have HONE4 := Lib.hid (show (#[.int .i64 0, .string t, .slice none 0 0] : Array Value).all (·.oneCell') = true from all_oneCell_toArray (by intro v hv; simp only [List.mem_cons, List.not_mem_nil, or_false] at hv; rcases hv with rfl | rfl | rfl <;> rfl))
    have hlt4 := hy4.lt
    clear hy4 hst4
    go_wp2_with (refine wpList_store_mid rfl 40 _ _ rfl _ _ _ rfl rfl HTH4.out inf40 HONE4.out ?_)
    exact bodyPost_ret (v := .agg #[.int .i64 0, .string t, .slice none 0 0]) (results_cell_row rfl _ _ (w.heap.size + 1) 40 _ (0, 0) _ rfl HST4.out Tryz.underlying40 rfl (by kernel_rfl)) rfl ⟨rfl, HSS4.out, HFF4.out⟩

set_option maxRecDepth 100000 in
set_option maxHeartbeats 4000000 in
theorem row_iri (l : List UInt8) (b c p s s2 : Nat) (A : Option Addr) (rs : List Int) (w : World) (hl : l ≠ []) (hl2 : l.length ≤ 1000) (hgd : (Tm.iri ⟨l.toArray⟩).good = true) (hs : skip rs [0] p = s) (hs2 : skip rs [0] s = s) (hbd : Body rs s l) (hq : skip rs [0] (s + l.length + 2) = s2) (hq2 : skip rs [0] s2 = s2) (hno : ¬ peekOf rs s2 = 42 ∧ ¬ peekOf rs s2 = 43 ∧ ¬ peekOf rs s2 = 126) (h47 : ¬ peekOf rs s2 = 47) (h124 : ¬ peekOf rs s2 = 124) (hg : Sg w) (h : Sc w b A c rs p) :
    Calls Tryz.prog 299 #[.agg #[.pointer (some ⟨b, 0, none⟩)]] w (ScPost w b A c rs s2 (.agg #[.int .i64 0, .string ⟨l.toArray⟩, .slice none 0 0])) := by
  have hf : Fr (fun _ => False) w ((w.alloc (.cells #[.pointer (some ⟨b, 0, none⟩)] 108)).alloc (.cells #[.int .i64 0, .string ⟨#[]⟩, .slice none 0 0] 40)) := ((Fr.refl _ _).alloc _).alloc _
  have hx := Blk.new w 108 #[.pointer (some ⟨b, 0, none⟩)]
  have hy := Blk.new (w.alloc (.cells #[.pointer (some ⟨b, 0, none⟩)] 108)) 40 #[.int .i64 0, .string ⟨#[]⟩, .slice none 0 0]
  rw [show (w.alloc (.cells #[.pointer (some ⟨b, 0, none⟩)] 108)).heap.size = w.heap.size + 1 by simp] at hy
  have hx := hx.alloc (.cells #[.int .i64 0, .string ⟨#[]⟩, .slice none 0 0] 40)
  have HX := Lib.hid hx
  have HY := Lib.hid hy
  have HF := Lib.hid hf
  have HS := Lib.hid (h.frF hf)
  have hbl := h.blk.lt
  have HA := Lib.hid (alt_iri l b c p s s2 w.heap.size A rs _ hl hl2 hgd hs hs2 hbd hq hq2 hno h124 h47 hx (hg.frF hf) (h.frF hf))
  have hmf : ∀ (fn : Fn) (first cap : Array Value) (w : World), (Instr.makeFunc fn first cap).run Tryz.prog w = .ok (.func fn first cap) w := fun _ _ _ _ => rfl
  generalize (⟨l.toArray⟩ : ByteArray) = t at *
  clear h hf hx hy hq hq2 hno h47 h124 hg hl hl2 hgd hs hs2 hbd
  go_enter Tryz.func299, Tryz.ntmps299
  go_wp2_with fail
  refine (HA.out).mono ?_
  rintro e w1 ⟨rfl, hs1, hf1⟩
  have hx1 := HX.out.fr hf1 (fun e => by omega)
  have x1 : w1.cell? ⟨w.heap.size, 0, none⟩ = some (.pointer (some ⟨b, 0, none⟩)) := hx1.cell 0
  have HX1 := Lib.hid hx1
  have HY1 := Lib.hid (HY.out.fr hf1 (fun e => by omega))
  have HS1 := Lib.hid hs1
  have HF1 := Lib.hid ((HF.out.mono (T := fun j => j = b) (fun _ _ h => h.elim)).trans' hf1)
  clear hs1 hf1 hx1
  have hy2 := HY1.out
  have hst2 := Blk.setAll (vs := [.int .i64 0, .string t, .slice none 0 0]) (old := [.int .i64 0, .string ⟨#[]⟩, .slice none 0 0]) hy2 rfl
  have HTH2 := Lib.hid (Blk.there (cs := [.int .i64 0, .string ⟨#[]⟩, .slice none 0 0]) hy2 (n := 3) rfl)
  have HST2 := Lib.hid hst2.1
  have HSS2 := Lib.hid (HS1.out.fr hst2.2 (fun e => by omega) (fun j hj e => own_blk_ne HS1.out.row hy2 (by decide) (by rw [hj, e])))
  have HFF2 := Lib.hid (HF1.out.trans (T := fun j => j = b ∨ j = w.heap.size + 1) (hst2.2.mono (fun _ _ h => .inr h)) (fun j hj h => h.elim id (fun h => absurd hj (by omega))))
  have HONE2 := Lib.hid (show (#[.int .i64 0, .string t, .slice none 0 0] : Array Value).all (·.oneCell') = true from all_oneCell_toArray (by intro v hv; simp only [List.mem_cons, List.not_mem_nil, or_false] at hv; rcases hv with rfl | rfl | rfl <;> rfl))
  have hlt2 := hy2.lt
  clear hy2 hst2
  go_wp2_with (refine wpList_store_mid rfl 40 _ _ rfl _ _ _ rfl rfl HTH2.out inf40 HONE2.out ?_)
  exact bodyPost_ret (v := .agg #[.int .i64 0, .string t, .slice none 0 0]) (results_cell_row rfl _ _ (w.heap.size + 1) 40 _ (0, 0) _ rfl HST2.out Tryz.underlying40 rfl (by kernel_rfl)) rfl ⟨rfl, HSS2.out, HFF2.out⟩

set_option maxRecDepth 100000 in
set_option maxHeartbeats 4000000 in
theorem idx354_nil (f : Value) (w : World) : Calls Tryz.prog 354 #[.slice none 0 0, f] w fun e w' => e = .returned (.int .i64 (-1)) ∧ w = w' := by
  go_enter Tryz.func354, Tryz.ntmps354
  go_wp2_with fail
  go_loopw [8] (fun iv wr => iv = .int .i64 0 ∧ w = wr) (fun _ _ => 0)
  case atStart => exact ⟨rfl, rfl⟩
  case round =>
    obtain ⟨rfl, rfl⟩ := hrel
    go_wp2_with fail
    go_ret
    exact ⟨rfl, rfl⟩
set_option maxRecDepth 100000 in
set_option maxHeartbeats 4000000 in
theorem has332_nil (f : Value) (w : World) : Calls Tryz.prog 332 #[.slice none 0 0, f] w fun e w' => e = .returned (.bool false) ∧ w = w' := by
  have HI := Lib.hid (idx354_nil f w)
  go_enter Tryz.func332, Tryz.ntmps332
  go_wp2_with fail
  refine HI.out.mono ?_
  rintro e w1 ⟨rfl, rfl⟩
  go_wp2_with fail
  go_ret
  exact ⟨rfl, rfl⟩
set_option maxRecDepth 100000 in
set_option maxHeartbeats 4000000 in
/-- A path without parts is not too deep. -/
theorem deep_nil (k : Int) (t : ByteArray) (w : World) : Calls Tryz.prog 300 #[.agg #[.int .i64 k, .string t, .slice none 0 0], .int .i64 40] w (IsB false w) := by
  have HI := Lib.hid (fun f w => has332_nil f w)
  have hmf : ∀ (fn : Fn) (first cap : Array Value) (w : World), (Instr.makeFunc fn first cap).run Tryz.prog w = .ok (.func fn first cap) w := fun _ _ _ _ => rfl
  go_enter Tryz.func300, Tryz.ntmps300
  go_wp2_with fail
  refine (HI.out _ _).mono ?_
  rintro e w1 ⟨rfl, rfl⟩
  go_wp2_with fail
  go_ret
  exact ⟨rfl, ((Fr.refl _ _).alloc _).alloc _⟩

set_option maxRecDepth 100000 in
set_option maxHeartbeats 4000000 in
/-- A path that is one IRI. -/
theorem path_iri (l : List UInt8) (b c p s s2 : Nat) (A : Option Addr) (rs : List Int) (w : World) (hl : l ≠ []) (hl2 : l.length ≤ 1000) (hgd : (Tm.iri ⟨l.toArray⟩).good = true) (hs : skip rs [0] p = s) (hs2 : skip rs [0] s = s) (hbd : Body rs s l) (hq : skip rs [0] (s + l.length + 2) = s2) (hq2 : skip rs [0] s2 = s2) (hno : ¬ peekOf rs s2 = 42 ∧ ¬ peekOf rs s2 = 43 ∧ ¬ peekOf rs s2 = 126) (h47 : ¬ peekOf rs s2 = 47) (h124 : ¬ peekOf rs s2 = 124) (hg : Sg w) (h : Sc w b A c rs p) :
    Calls Tryz.prog 263 #[.agg #[.pointer (some ⟨b, 0, none⟩)]] w (ScPost w b A c rs s2 (.agg #[.int .i64 0, .string ⟨l.toArray⟩, .slice none 0 0])) := by
  have hf : Fr (fun _ => False) w ((w.alloc (.cells #[.pointer (some ⟨b, 0, none⟩)] 108)).alloc (.cells #[.int .i64 0, .string ⟨#[]⟩, .slice none 0 0] 40)) := ((Fr.refl _ _).alloc _).alloc _
  have hx := Blk.new w 108 #[.pointer (some ⟨b, 0, none⟩)]
  have hy := Blk.new (w.alloc (.cells #[.pointer (some ⟨b, 0, none⟩)] 108)) 40 #[.int .i64 0, .string ⟨#[]⟩, .slice none 0 0]
  rw [show (w.alloc (.cells #[.pointer (some ⟨b, 0, none⟩)] 108)).heap.size = w.heap.size + 1 by simp] at hy
  have hx := hx.alloc (.cells #[.int .i64 0, .string ⟨#[]⟩, .slice none 0 0] 40)
  have HX := Lib.hid hx
  have HY := Lib.hid hy
  have HF := Lib.hid hf
  have HS := Lib.hid (h.frF hf)
  have hbl := h.blk.lt
  have HB := Lib.hid (fun w1 h1 => blanks_sc b c p A rs w1 h1)
  rw [hs] at HB
  have HPL := Lib.hid (fun w1 h1 => place_sc b c s A rs w1 h1)
  have HR := Lib.hid (fun w1 h1 h2 => row_iri l b c s s s2 A rs w1 hl hl2 hgd hs2 hs2 hbd hq hq2 hno h47 h124 h1 h2)
  have HD := Lib.hid (fun t w1 => deep_nil 0 t w1)
  have HSG := Lib.hid (hg.frF hf)
  generalize (⟨l.toArray⟩ : ByteArray) = t at *
  clear h hf hx hy hq hq2 hno h47 h124 hg hl hl2 hgd hs hs2 hbd
  go_enter Tryz.func263, Tryz.ntmps263
  go_wp2_with fail
  refine (HB.out _ HS.out).mono ?_
  rintro e w1 ⟨⟨k, rfl⟩, hs1, hf1⟩
  have hx1 := HX.out.fr hf1 (fun e => by omega)
  have x1 : w1.cell? ⟨w.heap.size, 0, none⟩ = some (.pointer (some ⟨b, 0, none⟩)) := hx1.cell 0
  have HX1 := Lib.hid hx1
  have HY1 := Lib.hid (HY.out.fr hf1 (fun e => by omega))
  have HS1 := Lib.hid hs1
  have HF1 := Lib.hid ((HF.out.mono (T := fun j => j = b) (fun _ _ h => h.elim)).trans' hf1)
  have HSG1 := Lib.hid (HSG.out.frB HS.out.blk (by decide) hf1)
  clear hs1 hf1 hx1
  go_wp2_with fail
  refine (HPL.out _ HS1.out).mono ?_
  rintro e wq ⟨rfl, rfl⟩
  go_wp2_with fail
  refine (HR.out _ HSG1.out HS1.out).mono ?_
  rintro e w2 ⟨rfl, hs2, hf2⟩
  have hx2 := HX1.out.fr hf2 (fun e => by omega)
  have x2 : w2.cell? ⟨w.heap.size, 0, none⟩ = some (.pointer (some ⟨b, 0, none⟩)) := hx2.cell 0
  have HX2 := Lib.hid hx2
  have HY2 := Lib.hid (HY1.out.fr hf2 (fun e => by omega))
  have HS2 := Lib.hid hs2
  have HF2 := Lib.hid (HF1.out.trans' hf2)
  clear hs2 hf2 hx2 x1
  have hfa : Fr (fun _ => False) w2 (w2.alloc (.cells #[.int .i64 0, .string t, .slice none 0 0] 40)) := (Fr.refl _ _).alloc _
  obtain ⟨w3, hw3⟩ : ∃ w3, w3 = w2.alloc (.cells #[.int .i64 0, .string t, .slice none 0 0] 40) := ⟨_, rfl⟩
  obtain ⟨pb, hpb⟩ : ∃ pb, pb = w2.heap.size := ⟨_, rfl⟩
  have hp3 := Blk.new w2 40 #[.int .i64 0, .string t, .slice none 0 0]
  rw [← hw3] at hfa hp3
  rw [← hpb] at hp3
  have hbp : b < pb := by have := HX2.out.lt; omega
  have hbp2 : w.heap.size + 1 < pb := by have := HY2.out.lt; omega
  have HP3 := Lib.hid hp3
  have HX3 := Lib.hid (HX2.out.fr hfa (fun h => h))
  have HY3 := Lib.hid (HY2.out.fr hfa (fun h => h))
  have HS3 := Lib.hid (HS2.out.frF hfa)
  have HF3 := Lib.hid (HF2.out.trans hfa (fun _ _ h => h.elim))
  clear hfa hp3
  go_wp2_with fail
  rw [← hw3, ← hpb]
  clear hw3 hpb x2
  refine (HD.out _ _).mono ?_
  rintro e w4 ⟨rfl, hf4⟩
  have hp4 := HP3.out.fr hf4 (fun h => h)
  have p0 : w4.cell? ⟨pb, 0, none⟩ = some (.int .i64 0) := hp4.cell 0
  have p1 : w4.cell? ⟨pb, 1, none⟩ = some (.string t) := hp4.cell 1
  have p2 : w4.cell? ⟨pb, 2, none⟩ = some (.slice none 0 0) := hp4.cell 2
  have HY4 := Lib.hid (HY3.out.fr hf4 (fun h => h))
  have HS4 := Lib.hid (HS3.out.frF hf4)
  have HF4 := Lib.hid (HF3.out.trans hf4 (fun _ _ h => h.elim))
  clear hp4 hf4
  have hy5 := HY4.out
  have hst5 := Blk.setAll (vs := [.int .i64 0, .string t, .slice none 0 0]) (old := [.int .i64 0, .string ⟨#[]⟩, .slice none 0 0]) hy5 rfl
  have HTH5 := Lib.hid (Blk.there (cs := [.int .i64 0, .string ⟨#[]⟩, .slice none 0 0]) hy5 (n := 3) rfl)
  have HST5 := Lib.hid hst5.1
  have HSS5 := Lib.hid (HS4.out.fr hst5.2 (fun e => by omega) (fun j hj e => own_blk_ne HS4.out.row hy5 (by decide) (by rw [hj, e])))
  have HFF5 := Lib.hid (HF4.out.trans (T := fun j => j = b ∨ j = w.heap.size + 1) (hst5.2.mono (fun _ _ h => .inr h)) (fun j hj h => h.elim id (fun h => absurd hj (by omega))))
  have HONE5 := Lib.hid (show (#[.int .i64 0, .string t, .slice none 0 0] : Array Value).all (·.oneCell') = true from all_oneCell_toArray (by intro v hv; simp only [List.mem_cons, List.not_mem_nil, or_false] at hv; rcases hv with rfl | rfl | rfl <;> rfl))
  have hlt5 := hy5.lt
  clear hy5 hst5
  go_wp2_with (refine wpList_store_mid rfl 40 _ _ rfl _ _ _ rfl rfl HTH5.out inf40 HONE5.out ?_)
  exact bodyPost_ret (v := .agg #[.int .i64 0, .string t, .slice none 0 0]) (results_cell_row rfl _ _ (w.heap.size + 1) 40 _ (0, 0) _ rfl HST5.out Tryz.underlying40 rfl (by kernel_rfl)) rfl ⟨rfl, HSS5.out, HFF5.out⟩

end Go.Proofs.YtebddgdkndmpjaaGreatDoor
