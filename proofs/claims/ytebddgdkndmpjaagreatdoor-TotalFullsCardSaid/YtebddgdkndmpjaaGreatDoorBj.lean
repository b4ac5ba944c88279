/- A var: walked. -/
import Derived.Test.YtebddgdkndmpjaaGreatDoorBi
import Derived.Deep.CutBlock
import Derived.Deep.RegionLawGrows
import Derived.Deep.Cut
import Derived.Deep.CutRange
import Derived.WalkKit
import Derived.WalkLawsBesides
import Derived.WalkSpells
import Derived.Deep.QuietTactic
import Derived.BigRegion
import Derived.BigQuiet
import Derived.Lib.Hide
import Derived.Outline
import Derived.Deep.AppendLies
import Derived.Deep.RegionLaw
import Derived.Deep.RegionWith
import Derived.Deep.RegionHeld3
import Derived.Deep.LoopGhost
import Derived.Deep.DeepFit
import Derived.Laws.ResultCell
import Derived.Laws.RangeAny
import Derived.Deep.MidRow
import Derived.StillTailTactics
import Derived.OpenShut
namespace Go.Proofs.YtebddgdkndmpjaaGreatDoor
set_option linter.unusedVariables false
open Go.RowKit Go

theorem conv_rune (r : Int) (w : World) : (convert 21 9 (.int .i32 r)).run Tryz.prog w = .ok (.string (Utf8.encode r)) w := by
  simp [convert, run_underlying Tryz.underlying21, run_underlying Tryz.underlying9]
  rfl
theorem encode_ascii (c : UInt8) (h : c.toNat < 128) : Utf8.encode (c.toNat : Int) = ⟨#[c]⟩ := by
  unfold Utf8.encode
  have hv : Utf8.valid (c.toNat : Int) = true := by
    unfold Utf8.valid
    simp
    omega
  simp [hv, h]

theorem str_push (l : List UInt8) (i : Nat) (c : UInt8) (h : l.take (i + 1) = l.take i ++ [c]) : (⟨(l.take i).toArray⟩ ++ ⟨#[c]⟩ : ByteArray) = ⟨(l.take (i + 1)).toArray⟩ := by
  rw [h]
  apply ByteArray.ext
  rw [ByteArray.data_append]
  simp

/-- A name of letters follows a question mark. -/
def Name (rs : List Int) (s : Nat) (l : List UInt8) : Prop :=
  peekOf rs s = 63 ∧ clsOf (peekOf rs (s + 1)) = 1 ∧ (∀ i, i < l.length → peekOf rs (s + 1 + i) = ((l.getD i 0).toNat : Int) ∧ (l.getD i 0).toNat < 128 ∧ letterOf ((l.getD i 0).toNat : Int) = true) ∧ letterOf (peekOf rs (s + 1 + l.length)) = false

set_option maxRecDepth 100000 in
set_option maxHeartbeats 4000000 in
theorem variable_sc (l : List UInt8) (b c p s : Nat) (A : Option Addr) (rs : List Int) (w : World) (hl2 : l.length ≤ 1000) (hs : skip rs [0] p = s) (hnm : Name rs s l) (h : Sc w b A c rs p) :
    Calls Tryz.prog 151 #[.agg #[.pointer (some ⟨b, 0, none⟩)]] w (ScPost w b A c rs (s + 1 + l.length) (.string ⟨l.toArray⟩)) := by
  obtain ⟨h63, hcl, hbody, hend⟩ := hnm
  have hf : Fr (fun _ => False) w (w.alloc (.cells #[.pointer (some ⟨b, 0, none⟩)] 108)) := (Fr.refl _ _).alloc _
  have HM := Lib.hid (must_sc ⟨#[63]⟩ b c p (s + 1) A rs _ (ascii_of (by decide)) (by decide) (by unfold markAt; rw [hs, isAt_one, h63]; rfl) (by unfold markTo markAt; rw [hs, isAt_one, h63]; rfl) (h.frF hf))
  have HK := Lib.hid (fun q w1 h1 => peek_sc b c q A rs w1 h1)
  have HC := Lib.hid (fun w1 => cls_any (peekOf rs (s + 1)) w1 (peek_ok h (s + 1)))
  rw [hcl] at HC
  have HL := Lib.hid (fun q w1 => letter_any (peekOf rs q) w1 (peek_ok h q))
  have HN := Lib.hid (fun q w1 h1 => next_sc b c q A rs w1 h1)
  have HX := Lib.hid (Blk.new w 108 #[.pointer (some ⟨b, 0, none⟩)])
  have HF := Lib.hid hf
  have HBO := Lib.hid hbody
  have HEN := Lib.hid hend
  have hbl := h.blk.lt
  clear h hf hbody hend hcl hs h63
  go_enter Tryz.func151, Tryz.ntmps151
  go_wp2_with fail
  refine HM.out.mono ?_
  rintro e w1 ⟨rfl, hs1, hf1⟩
  have hx1 := box_keep HX.out hbl hf1
  have x1 : w1.cell? ⟨w.heap.size, 0, none⟩ = some (.pointer (some ⟨b, 0, none⟩)) := hx1.cell 0
  have HKK := Lib.hid (HK.out (s + 1) w1 hs1)
  have HX1 := Lib.hid hx1
  have HS1 := Lib.hid hs1
  have HF1 := Lib.hid ((HF.out.mono (T := fun j => j = b) (fun _ _ h => h.elim)).trans' hf1)
  generalize peekOf rs (s + 1) = pk at *
  clear hx1 hs1 hf1
  go_wp2_with fail
  refine HKK.out.mono ?_
  rintro e w2 ⟨rfl, hf2⟩
  go_wp2_with fail
  refine (HC.out _).mono ?_
  rintro e w3 ⟨rfl, rfl⟩
  have HX2 := Lib.hid (HX1.out.fr hf2 (fun h => h))
  have HS2 := Lib.hid (HS1.out.frF hf2)
  have HF2 := Lib.hid (HF1.out.trans hf2 (fun _ _ h => h.elim))
  clear hf2
  go_wp2_with fail
  go_loopg [3] (l.length) (fun g nv wr => ∃ i : Nat, nv = .string ⟨(l.take i).toArray⟩ ∧ l.length ≤ i + g ∧ i ≤ l.length ∧ Sc wr b A c rs (s + 1 + i) ∧ Blk wr w.heap.size 108 #[.pointer (some ⟨b, 0, none⟩)] ∧ Fr (fun j => j = b) w wr)
  case atStart => exact ⟨0, rfl, by omega, Nat.zero_le _, HS2.out, HX2.out, HF2.out⟩
  case round =>
    obtain ⟨i, rfl, hg, hi, hs, hx, hfr⟩ := hrel
    have HKI := Lib.hid (HK.out (s + 1 + i) wr hs)
    have HLI := Lib.hid (fun w1 => HL.out (s + 1 + i) w1)
    have HSI := Lib.hid hs
    have HXI := Lib.hid hx
    have HFI := Lib.hid hfr
    have x0 : wr.cell? ⟨w.heap.size, 0, none⟩ = some (.pointer (some ⟨b, 0, none⟩)) := hx.cell 0
    clear hs hx hfr x1
    by_cases hil : i < l.length
    · obtain ⟨hpk, hc1, hlt⟩ := HBO.out i hil
      have hplt := peek_lt (rs := rs) (p := s + 1 + i) (by rw [hpk]; omega)
      have HNI := Lib.hid (fun w1 h1 => HN.out (s + 1 + i) w1 h1)
      unfold nextAt at HNI
      rw [if_pos hplt, hpk] at HNI
      rw [hpk] at HKI HLI
      rw [hlt] at HLI
      have hcv := conv_rune ((l.getD i 0).toNat : Int)
      rw [encode_ascii _ hc1] at hcv
      have HTK := Lib.hid (show l.take (i + 1) = l.take i ++ [l.getD i 0] by rw [List.take_add_one, List.getD_eq_getElem?_getD, List.getElem?_eq_getElem hil]; rfl)
      generalize l.getD i 0 = cu at *
      generalize hrr : cu.toNat = r at *
      have HRR := Lib.hid hrr
      clear hrr
      go_wp2_with fail
      refine HKI.out.mono ?_
      rintro e w4 ⟨rfl, hf4⟩
      have hx4 := HXI.out.fr hf4 (fun h => h)
      have x4 : w4.cell? ⟨w.heap.size, 0, none⟩ = some (.pointer (some ⟨b, 0, none⟩)) := hx4.cell 0
      have HX4 := Lib.hid hx4
      have HS4 := Lib.hid (HSI.out.frF hf4)
      have HF4 := Lib.hid (HFI.out.trans hf4 (fun _ _ h => h.elim))
      clear hf4 hx4 x0
      go_wp2_with fail
      refine (HLI.out _).mono ?_
      rintro e w5 ⟨rfl, rfl⟩
      have HNN := Lib.hid (HNI.out _ HS4.out)
      go_wp2_with fail
      refine HNN.out.mono ?_
      rintro e w6 ⟨rfl, hs6, hf6⟩
      have HS6 := Lib.hid hs6
      have HX6 := Lib.hid (box_keep HX4.out hbl hf6)
      have HF6 := Lib.hid (HF4.out.trans' hf6)
      clear hs6 hf6
      go_wp2_with fail
      go_roundg (l.length - (i + 1))
      case measure => omega
      case rel => exact ⟨i + 1, by rw [str_push l i cu HTK.out], by omega, by omega, HS6.out, HX6.out, HF6.out⟩
    · have hie : i = l.length := by omega
      subst hie
      rw [HEN.out] at HLI
      rw [List.take_length]
      generalize peekOf rs (s + 1 + l.length) = pe at *
      go_wp2_with fail
      refine HKI.out.mono ?_
      rintro e w4 ⟨rfl, hf4⟩
      go_wp2_with fail
      refine (HLI.out _).mono ?_
      rintro e w5 ⟨rfl, rfl⟩
      go_wp2_with fail
      go_ret
      exact ⟨rfl, HSI.out.frF hf4, HFI.out.trans hf4 (fun _ _ h => h.elim)⟩

/-- What is selected: a var. -/
def selV (l : List UInt8) : Value := .agg #[.string ⟨l.toArray⟩, .string ⟨#[]⟩, .string ⟨#[]⟩]

set_option maxRecDepth 100000 in
set_option maxHeartbeats 4000000 in
theorem selected_sc (l : List UInt8) (b c p s : Nat) (A : Option Addr) (rs : List Int) (w : World) (hl2 : l.length ≤ 1000) (hs : skip rs [0] p = s) (hs2 : skip rs [0] s = s) (hnm : Name rs s l) (h : Sc w b A c rs p) :
    Calls Tryz.prog 96 #[.agg #[.pointer (some ⟨b, 0, none⟩)]] w (ScPost w b A c rs (s + 1 + l.length) (selV l)) := by
  have hf : Fr (fun _ => False) w ((w.alloc (.cells #[.pointer (some ⟨b, 0, none⟩)] 108)).alloc (.cells #[.string ⟨#[]⟩, .string ⟨#[]⟩, .string ⟨#[]⟩] 176)) := ((Fr.refl _ _).alloc _).alloc _
  have HM := Lib.hid (mark_sc ⟨#[40]⟩ b c p A rs _ (ascii_of (by decide)) (by decide) (h.frF hf))
  have e1 : markAt rs p ⟨#[40]⟩ = false := by unfold markAt; rw [hs, isAt_one, hnm.1]; rfl
  have e2 : markTo rs p ⟨#[40]⟩ = s := by unfold markTo; rw [e1, hs]; simp
  rw [e1, e2] at HM
  have HV := Lib.hid (fun w1 h1 => variable_sc l b c s s A rs w1 hl2 hs2 hnm h1)
  have hx := (Blk.new w 108 #[.pointer (some ⟨b, 0, none⟩)]).alloc (.cells #[.string ⟨#[]⟩, .string ⟨#[]⟩, .string ⟨#[]⟩] 176)
  have hz : (w.alloc (.cells #[.pointer (some ⟨b, 0, none⟩)] 108)).heap.size = w.heap.size + 1 := by simp
  have hy := Blk.new (w.alloc (.cells #[.pointer (some ⟨b, 0, none⟩)] 108)) 176 #[.string ⟨#[]⟩, .string ⟨#[]⟩, .string ⟨#[]⟩]
  rw [hz] at hy
  have HX := Lib.hid hx
  have HY := Lib.hid hy
  have HF := Lib.hid hf
  have hbl := h.blk.lt
  unfold selV
  generalize (⟨l.toArray⟩ : ByteArray) = t at *
  generalize s + 1 + l.length = q at *
  clear h hf hx hy hz e1 e2 hs hs2 hnm
  go_enter Tryz.func96, Tryz.ntmps96
  go_wp2_with fail
  refine HM.out.mono ?_
  rintro e w1 ⟨rfl, hs1, hf1⟩
  have hx1 := box_keep HX.out hbl hf1
  have x1 : w1.cell? ⟨w.heap.size, 0, none⟩ = some (.pointer (some ⟨b, 0, none⟩)) := hx1.cell 0
  have HVV := Lib.hid (HV.out w1 hs1)
  have HY1 := Lib.hid (HY.out.fr hf1 (fun e => by omega))
  have HF1 := Lib.hid ((HF.out.mono (T := fun j => j = b) (fun _ _ h => h.elim)).trans' hf1)
  clear hx1 hs1 hf1
  go_wp2_with fail
  refine HVV.out.mono ?_
  rintro e w2 ⟨rfl, hs2, hf2⟩
  have hy2 := HY1.out.fr hf2 (fun e => by omega)
  have hl2 := hy2.lt
  have a0 := hy2.cell 0
  have a1 := hy2.cell 1
  have a2 := hy2.cell 2
  have f0 := hy2.frozen 0
  have f1 := hy2.frozen 1
  have f2 := hy2.frozen 2
  have hy3 := hy2.set_ 0 (.string t)
  have hl3 := hy3.lt
  have a3 := hy3.cell 1
  have a4 := hy3.cell 2
  have f3 := hy3.frozen 1
  have f4 := hy3.frozen 2
  have hy4 := hy3.set_ 1 (.string ⟨#[]⟩)
  have hl4 := hy4.lt
  have a5 := hy4.cell 2
  have f5 := hy4.frozen 2
  have hy5 := hy4.set_ 2 (.string ⟨#[]⟩)
  simp only [List.setIfInBounds_toArray, List.set_cons_zero, List.set_cons_succ, List.getElem?_toArray, List.getElem?_cons_zero, List.getElem?_cons_succ] at a0 a1 a2 a3 a4 a5 hy5
  have FS : Fr (fun j => j = w.heap.size + 1) w2 (((w2.setCell ⟨w.heap.size + 1, 0, none⟩ (.string t)).setCell ⟨w.heap.size + 1, 1, none⟩ (.string ⟨#[]⟩)).setCell ⟨w.heap.size + 1, 2, none⟩ (.string ⟨#[]⟩)) := (((Fr.refl (fun j => j = w.heap.size + 1) w2).setCell ⟨w.heap.size + 1, 0, none⟩ (fun _ => rfl) _).setCell ⟨w.heap.size + 1, 1, none⟩ (fun _ => rfl) _).setCell ⟨w.heap.size + 1, 2, none⟩ (fun _ => rfl) _
  have HY5 := Lib.hid hy5
  have HS5 := Lib.hid (hs2.fr FS (fun e => by omega) (fun j hj e => own_blk_ne hs2.row hy2 (by decide) (by rw [hj, e])))
  have HF5 := Lib.hid (((HF1.out.trans' hf2).trans (T := fun j => j = b ∨ j = w.heap.size + 1) (FS.mono (fun _ _ h => .inr h)) (fun j hj h => h.elim id (fun h => absurd hj (by omega)))))
  clear hy2 hy3 hy4 hy5 FS hs2 hf2
  go_wp2_with fail
  exact bodyPost_ret (v := .agg #[.string t, .string ⟨#[]⟩, .string ⟨#[]⟩]) (results_cell_row rfl _ _ (w.heap.size + 1) 176 _ (0, 0) _ rfl HY5.out Tryz.underlying176 rfl (by kernel_rfl)) rfl ⟨rfl, HS5.out, HF5.out⟩

end Go.Proofs.YtebddgdkndmpjaaGreatDoor
