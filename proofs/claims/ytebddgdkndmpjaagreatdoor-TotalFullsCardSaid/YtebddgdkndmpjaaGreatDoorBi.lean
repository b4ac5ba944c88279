/- A term that stands in angle brackets: walked. -/
import Derived.Test.YtebddgdkndmpjaaGreatDoorBh
import Derived.Test.YtebddgdkndmpjaaGreatDoorGi
import Derived.Deep.CutBlock
import Derived.Deep.RegionLawGrows
import Derived.Deep.Cut
import Derived.Deep.CutRange
import Derived.WalkKit
import Derived.WalkLawsBesides
import Derived.WalkSpells
import Derived.Deep.QuietTactic
import Derived.BigRegion
import Derived.BigQuiet
import Derived.Lib.Hide
import Derived.Outline
import Derived.Deep.AppendLies
import Derived.Deep.RegionLaw
import Derived.Deep.RegionWith
import Derived.Deep.RegionHeld3
import Derived.Deep.LoopGhost
import Derived.Deep.DeepFit
import Derived.Laws.ResultCell
import Derived.Laws.RangeAny
import Derived.Deep.MidRow
import Derived.StillTailTactics
import Derived.OpenShut
namespace Go.Proofs.YtebddgdkndmpjaaGreatDoor
set_option linter.unusedVariables false
open Go.RowKit Go

set_option maxRecDepth 100000 in
set_option maxHeartbeats 4000000 in
theorem form_iri (l : List UInt8) (b c p : Nat) (A : Option Addr) (rs : List Int) (w : World) (hl : l ≠ []) (hl2 : l.length ≤ 1000) (hbd : Body rs p l) (h : Sc w b A c rs p) :
    Calls Tryz.prog 259 #[.pointer (some ⟨b, 0, none⟩)] w (ScPost w b A c rs (p + l.length + 2) (.tuple #[(Tm.iri ⟨l.toArray⟩).val, .bool true])) := by
  have HK := Lib.hid (peek_sc b c p A rs w h)
  rw [hbd.1] at HK
  have HN := Lib.hid (fun w1 h1 => ntiri_sc l b c p A rs w1 hl hl2 hbd h1)
  have HS := Lib.hid h
  unfold Tm.val
  generalize (⟨l.toArray⟩ : ByteArray) = t at *
  generalize p + l.length + 2 = q at *
  clear h hbd
  go_enter Tryz.func259, Tryz.ntmps259
  go_wp2_with fail
  refine HK.out.mono ?_
  rintro e w1 ⟨rfl, hf1⟩
  have HN1 := Lib.hid (HN.out w1 (HS.out.frF hf1))
  go_wp2_with fail
  refine HN1.out.mono ?_
  rintro e w2 ⟨rfl, hs2, hf2⟩
  go_wp2_with fail
  go_ret2
  exact ⟨rfl, hs2, (hf1.mono (fun _ _ h => h.elim)).trans' hf2⟩

set_option maxRecDepth 100000 in
set_option maxHeartbeats 4000000 in
theorem read_iri (l : List UInt8) (b c p : Nat) (A : Option Addr) (rs : List Int) (w : World) (hl : l ≠ []) (hl2 : l.length ≤ 1000) (hgd : (Tm.iri ⟨l.toArray⟩).good = true) (hbd : Body rs p l) (h : Sc w b A c rs p) :
    Calls Tryz.prog 206 #[.pointer (some ⟨b, 0, none⟩)] w (ScPost w b A c rs (p + l.length + 2) (.tuple #[(Tm.iri ⟨l.toArray⟩).val, .int .i64 ((p + l.length + 2 : Nat) : Int), .int .i64 0])) := by
  have HP := Lib.hid (place_sc b c p A rs w h)
  have HF := Lib.hid (form_iri l b c p A rs w hl hl2 hbd h)
  have HP2 := Lib.hid (fun q w1 h1 => place_sc b c q A rs w1 h1)
  have HG := Lib.hid (fun w1 => tgood_any (Tm.iri ⟨l.toArray⟩) w1 (show (⟨l.toArray⟩ : ByteArray).size ≤ 4096 by show l.toArray.size ≤ 4096; simp; omega))
  rw [hgd] at HG
  unfold Tm.val at *
  generalize (⟨l.toArray⟩ : ByteArray) = t at *
  generalize p + l.length + 2 = q at *
  clear h hbd hgd
  go_enter Tryz.func206, Tryz.ntmps206
  go_wp2_with fail
  refine HP.out.mono ?_
  rintro e w1 ⟨rfl, rfl⟩
  go_wp2_with fail
  refine HF.out.mono ?_
  rintro e w2 ⟨rfl, hs2, hf2⟩
  have HPP := Lib.hid (HP2.out q w2 hs2)
  go_wp2_with fail
  refine HPP.out.mono ?_
  rintro e w3 ⟨rfl, rfl⟩
  go_wp2_with fail
  refine (HG.out _).mono ?_
  rintro e w4 ⟨rfl, hf4⟩
  go_wp2_with fail
  go_ret3
  exact ⟨rfl, hs2.frF hf4, hf2.trans hf4 (fun _ _ h => h.elim)⟩

set_option maxRecDepth 100000 in
set_option maxHeartbeats 4000000 in
theorem term_iri (l : List UInt8) (b c p q : Nat) (A : Option Addr) (rs : List Int) (w : World) (hl : l ≠ []) (hl2 : l.length ≤ 1000) (hgd : (Tm.iri ⟨l.toArray⟩).good = true) (hq : skip rs [0] p = q) (hbd : Body rs q l) (h : Sc w b A c rs p) :
    Calls Tryz.prog 145 #[.agg #[.pointer (some ⟨b, 0, none⟩)]] w (ScPost w b A c rs (q + l.length + 2) ((Tm.iri ⟨l.toArray⟩).val)) := by
  have hf : Fr (fun _ => False) w (w.alloc (.cells #[.pointer (some ⟨b, 0, none⟩)] 108)) := (Fr.refl _ _).alloc _
  have HB := Lib.hid (blanks_sc b c p A rs _ (h.frF hf))
  rw [hq] at HB
  have HR := Lib.hid (fun w1 h1 => read_iri l b c q A rs w1 hl hl2 hgd hbd h1)
  have HX := Lib.hid (Blk.new w 108 #[.pointer (some ⟨b, 0, none⟩)])
  have HF := Lib.hid hf
  have hbl := h.blk.lt
  unfold Tm.val at *
  generalize (⟨l.toArray⟩ : ByteArray) = t at *
  generalize q + l.length + 2 = q2 at *
  clear h hf hgd hbd hq
  go_enter Tryz.func145, Tryz.ntmps145
  go_wp2_with fail
  refine HB.out.mono ?_
  rintro e w1 ⟨⟨k, rfl⟩, hs1, hf1⟩
  have hx1 := box_keep HX.out hbl hf1
  have x1 : w1.cell? ⟨w.heap.size, 0, none⟩ = some (.pointer (some ⟨b, 0, none⟩)) := hx1.cell 0
  have HRR := Lib.hid (HR.out w1 hs1)
  have HF1 := Lib.hid ((HF.out.mono (T := fun j => j = b) (fun _ _ h => h.elim)).trans' hf1)
  clear hx1 hs1 hf1
  go_wp2_with fail
  refine HRR.out.mono ?_
  rintro e w2 ⟨rfl, hs2, hf2⟩
  go_wp2_with fail
  go_ret
  exact ⟨rfl, hs2, HF1.out.trans' hf2⟩

theorem as_i1 (x : Value) (w : World) : (Instr.typeAssert (.iface 198 x) 35 198 false).run Tryz.prog w = .ok x w := by kernel_rfl
theorem fd_198 (t : ByteArray) (w : World) : (Instr.field 198 (.agg #[.string t]) 0).run Tryz.prog w = .ok (.string t) w := by kernel_rfl
attribute [local go_sem] as_i1 fd_198
set_option maxRecDepth 100000 in
set_option maxHeartbeats 4000000 in
theorem iri_sc (l : List UInt8) (b c p q : Nat) (A : Option Addr) (rs : List Int) (w : World) (hl : l ≠ []) (hl2 : l.length ≤ 1000) (hgd : (Tm.iri ⟨l.toArray⟩).good = true) (hq : skip rs [0] p = q) (hq2 : skip rs [0] q = q) (hbd : Body rs q l) (h : Sc w b A c rs p) :
    Calls Tryz.prog 94 #[.agg #[.pointer (some ⟨b, 0, none⟩)]] w (ScPost w b A c rs (q + l.length + 2) (.string ⟨l.toArray⟩)) := by
  have hf : Fr (fun _ => False) w (w.alloc (.cells #[.pointer (some ⟨b, 0, none⟩)] 108)) := (Fr.refl _ _).alloc _
  have HN := Lib.hid (nextsign_sc b c p A rs _ (h.frF hf))
  rw [hq, hbd.1] at HN
  have HT := Lib.hid (fun w1 h1 => term_iri l b c q q A rs w1 hl hl2 hgd hq2 hbd h1)
  have HX := Lib.hid (Blk.new w 108 #[.pointer (some ⟨b, 0, none⟩)])
  have HF := Lib.hid hf
  have hbl := h.blk.lt
  unfold Tm.val at *
  generalize (⟨l.toArray⟩ : ByteArray) = t at *
  generalize q + l.length + 2 = q2 at *
  clear h hf hgd hbd hq hq2
  go_enter Tryz.func94, Tryz.ntmps94
  go_wp2_with fail
  refine HN.out.mono ?_
  rintro e w1 ⟨rfl, hs1, hf1⟩
  have hx1 := box_keep HX.out hbl hf1
  have x1 : w1.cell? ⟨w.heap.size, 0, none⟩ = some (.pointer (some ⟨b, 0, none⟩)) := hx1.cell 0
  have HTT := Lib.hid (HT.out w1 hs1)
  have HF1 := Lib.hid ((HF.out.mono (T := fun j => j = b) (fun _ _ h => h.elim)).trans' hf1)
  clear hx1 hs1 hf1
  go_wp2_with fail
  refine HTT.out.mono ?_
  rintro e w2 ⟨rfl, hs2, hf2⟩
  go_wp2_with fail
  go_ret
  exact ⟨rfl, hs2, HF1.out.trans' hf2⟩

end Go.Proofs.YtebddgdkndmpjaaGreatDoor
