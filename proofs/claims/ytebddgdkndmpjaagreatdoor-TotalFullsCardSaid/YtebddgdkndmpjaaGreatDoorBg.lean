/- What must follow; the next sign; one of some words: walked. -/
import Derived.Test.YtebddgdkndmpjaaGreatDoorBd
import Derived.Deep.CutBlock
import Derived.Deep.RegionLawGrows
import Derived.Deep.Cut
import Derived.Deep.CutRange
import Derived.WalkKit
import Derived.WalkLawsBesides
import Derived.WalkSpells
import Derived.Deep.QuietTactic
import Derived.BigRegion
import Derived.BigQuiet
import Derived.Lib.Hide
import Derived.Outline
import Derived.Deep.AppendLies
import Derived.Deep.RegionLaw
import Derived.Deep.RegionWith
import Derived.Deep.RegionHeld3
import Derived.Deep.LoopGhost
import Derived.Deep.DeepFit
import Derived.Laws.ResultCell
import Derived.Laws.RangeAny
import Derived.Deep.MidRow
import Derived.StillTailTactics
import Derived.OpenShut
namespace Go.Proofs.YtebddgdkndmpjaaGreatDoor
set_option linter.unusedVariables false
open Go.RowKit Go

set_option maxRecDepth 100000 in
set_option maxHeartbeats 4000000 in
theorem nextsign_sc (b c p : Nat) (A : Option Addr) (rs : List Int) (w : World) (h : Sc w b A c rs p) :
    Calls Tryz.prog 97 #[.agg #[.pointer (some ⟨b, 0, none⟩)]] w (ScPost w b A c rs (skip rs [0] p) (.int .i32 (peekOf rs (skip rs [0] p)))) := by
  have hf : Fr (fun _ => False) w (w.alloc (.cells #[.pointer (some ⟨b, 0, none⟩)] 108)) := (Fr.refl _ _).alloc _
  have HB := Lib.hid (blanks_sc b c p A rs _ (h.frF hf))
  have HK := Lib.hid (fun q w1 h1 => peek_sc b c q A rs w1 h1)
  have HX := Lib.hid (Blk.new w 108 #[.pointer (some ⟨b, 0, none⟩)])
  have HF := Lib.hid hf
  have hbl := h.blk.lt
  generalize skip rs [0] p = q at *
  obtain ⟨pk, hpk⟩ : ∃ pk, pk = peekOf rs q := ⟨_, rfl⟩
  have HPK := Lib.hid hpk
  rw [← hpk]
  clear h hf hpk
  go_enter Tryz.func97, Tryz.ntmps97
  go_wp2_with fail
  refine HB.out.mono ?_
  rintro e w1 ⟨⟨k, rfl⟩, hs1, hf1⟩
  have hx1 := box_keep HX.out hbl hf1
  have x1 : w1.cell? ⟨w.heap.size, 0, none⟩ = some (.pointer (some ⟨b, 0, none⟩)) := hx1.cell 0
  have HKK := Lib.hid (HK.out q w1 hs1)
  rw [← HPK.out] at HKK
  have HS1 := Lib.hid hs1
  have HF1 := Lib.hid ((HF.out.mono (T := fun j => j = b) (fun _ _ h => h.elim)).trans' hf1)
  clear hx1 hs1 hf1
  go_wp2_with fail
  refine HKK.out.mono ?_
  rintro e w2 ⟨rfl, hf2⟩
  go_wp2_with fail
  go_ret
  exact ⟨rfl, HS1.out.frF hf2, HF1.out.trans hf2 (fun _ _ h => h.elim)⟩

set_option maxRecDepth 100000 in
set_option maxHeartbeats 4000000 in
theorem need_sc (T : ByteArray) (b c p q : Nat) (A : Option Addr) (rs : List Int) (w : World) (hT : Ascii T) (hsz : T.size ≤ 100) (hw : wordAt rs p T = true) (hq : wordTo rs p T = q) (h : Sc w b A c rs p) :
    Calls Tryz.prog 92 #[.agg #[.pointer (some ⟨b, 0, none⟩)], .string T] w (ScPost w b A c rs q (.tuple #[])) := by
  have hf : Fr (fun _ => False) w (w.alloc (.cells #[.pointer (some ⟨b, 0, none⟩)] 108)) := (Fr.refl _ _).alloc _
  have HW := Lib.hid (word_sc T b c p A rs _ hT hsz (h.frF hf))
  have HF := Lib.hid hf
  rw [hw, hq] at HW
  clear h hf hw hq
  go_enter Tryz.func92, Tryz.ntmps92
  go_wp2_with fail
  refine HW.out.mono ?_
  rintro e w1 ⟨rfl, hs1, hf1⟩
  go_wp2_with fail
  go_end0
  exact ⟨rfl, hs1, (HF.out.mono (fun _ _ h => h.elim)).trans' hf1⟩

set_option maxRecDepth 100000 in
set_option maxHeartbeats 4000000 in
theorem must_sc (T : ByteArray) (b c p q : Nat) (A : Option Addr) (rs : List Int) (w : World) (hT : Ascii T) (hsz : T.size ≤ 100) (hw : markAt rs p T = true) (hq : markTo rs p T = q) (h : Sc w b A c rs p) :
    Calls Tryz.prog 152 #[.agg #[.pointer (some ⟨b, 0, none⟩)], .string T] w (ScPost w b A c rs q (.tuple #[])) := by
  have hf : Fr (fun _ => False) w (w.alloc (.cells #[.pointer (some ⟨b, 0, none⟩)] 108)) := (Fr.refl _ _).alloc _
  have HW := Lib.hid (mark_sc T b c p A rs _ hT hsz (h.frF hf))
  have HF := Lib.hid hf
  rw [hw, hq] at HW
  clear h hf hw hq
  go_enter Tryz.func152, Tryz.ntmps152
  go_wp2_with fail
  refine HW.out.mono ?_
  rintro e w1 ⟨rfl, hs1, hf1⟩
  go_wp2_with fail
  go_end0
  exact ⟨rfl, hs1, (HF.out.mono (fun _ _ h => h.elim)).trans' hf1⟩

/-- The first of some words is the k-th; the k words ahead of it are none. -/
theorem one_stay {rs : List Int} {p q : Nat} {T : ByteArray} (h : wordAt rs p T = false) (hq : skip rs [0] p = q) : wordTo rs p T = q := by
  unfold wordTo
  rw [h]
  simpa using hq

set_option maxRecDepth 100000 in
set_option maxHeartbeats 4000000 in
theorem one_sc (Ts : List ByteArray) (k : Nat) (b c p B : Nat) (A N : Option Addr) (nc : Nat) (rs : List Int) (w : World) (hT : ∀ T, T ∈ Ts → Ascii T ∧ T.size ≤ 100) (hn : Ts.length ≤ 100) (hk : k < Ts.length)
    (hskip : skip rs [0] (skip rs [0] p) = skip rs [0] p)
    (hno : ∀ j, j < k → wordAt rs p (Ts.getD j ByteArray.empty) = false ∧ wordAt rs (skip rs [0] p) (Ts.getD j ByteArray.empty) = false)
    (hyes : wordAt rs p (Ts.getD k ByteArray.empty) = true ∧ wordAt rs (skip rs [0] p) (Ts.getD k ByteArray.empty) = true) (q : Nat) (hq : wordTo rs p (Ts.getD k ByteArray.empty) = q ∧ wordTo rs (skip rs [0] p) (Ts.getD k ByteArray.empty) = q)
    (h : Sc w b A c rs p) (hr : w.ownsRow B 9 1 (.slice N Ts.length nc) Ts.length (Ts.map .string)) :
    Calls Tryz.prog 93 #[.agg #[.pointer (some ⟨b, 0, none⟩)], .slice N Ts.length nc] w (ScPost w b A c rs q (.string (Ts.getD k ByteArray.empty))) := by
  have hf : Fr (fun _ => False) w (w.alloc (.cells #[.pointer (some ⟨b, 0, none⟩)] 108)) := (Fr.refl _ _).alloc _
  have HW := Lib.hid (fun j q1 w1 (hj : j < Ts.length) h1 => word_sc (Ts.getD j ByteArray.empty) b c q1 A rs w1 (hT _ (by rw [List.getD_eq_getElem?_getD, List.getElem?_eq_getElem hj]; exact List.getElem_mem hj)).1 (hT _ (by rw [List.getD_eq_getElem?_getD, List.getElem?_eq_getElem hj]; exact List.getElem_mem hj)).2 h1)
  have HX := Lib.hid (Blk.new w 108 #[.pointer (some ⟨b, 0, none⟩)])
  have HF := Lib.hid hf
  have HR := Lib.hid hr
  have HS := Lib.hid h
  have HNO := Lib.hid hno
  have HYES := Lib.hid hyes
  have HQ := Lib.hid hq
  have HSK := Lib.hid hskip
  have hbl := h.blk.lt
  obtain ⟨N0, rfl, _, _, _⟩ := row_form hr (by omega)
  clear h hf hr hno hyes hq hskip
  go_enter Tryz.func93, Tryz.ntmps93
  go_wp2_with fail
  go_loopw [9] (fun iv wr => ∃ (j q1 : Nat), iv = .int .i64 (j : Int) ∧ j ≤ k ∧ (q1 = p ∨ q1 = skip rs [0] p) ∧ Sc wr b A c rs q1 ∧ Blk wr w.heap.size 108 #[.pointer (some ⟨b, 0, none⟩)] ∧ Fr (fun i => i = b) (w.alloc (.cells #[.pointer (some ⟨b, 0, none⟩)] 108)) wr) (fun iv _ => Ts.length - (intOf iv).toNat)
  case atStart => exact ⟨0, p, rfl, Nat.zero_le _, .inl rfl, HS.out.frF HF.out, HX.out, Fr.refl _ _⟩
  case round =>
    obtain ⟨j, q1, rfl, hj, hq1, hs, hx, hfr⟩ := hrel
    have hlt : (j : Int) < (Ts.length : Int) := by omega
    have hrr := ownsRow_fr (HR.out.alloc (.cells #[.pointer (some ⟨b, 0, none⟩)] 108)) hfr (fun i hi e => own_blk_ne HR.out HS.out.blk (by decide) (by rw [hi, e]))
    have cc := str_cell hrr j (by omega)
    have x0 : wr.cell? ⟨w.heap.size, 0, none⟩ = some (.pointer (some ⟨b, 0, none⟩)) := hx.cell 0
    have HWW := Lib.hid (HW.out j q1 wr (by omega) hs)
    have HFR := Lib.hid hfr
    have HXX := Lib.hid hx
    clear hrr hs hx hfr
    by_cases hjk : j = k
    · subst hjk
      have hyy : wordAt rs q1 (Ts.getD j ByteArray.empty) = true := by rcases hq1 with rfl | rfl; exact HYES.out.1; exact HYES.out.2
      have hqq : wordTo rs q1 (Ts.getD j ByteArray.empty) = q := by rcases hq1 with rfl | rfl; exact HQ.out.1; exact HQ.out.2
      rw [hyy, hqq] at HWW
      clear hyy hqq
      generalize hT0 : Ts.getD j ByteArray.empty = T at *
      clear hT0
      go_wp2_with fail
      refine HWW.out.mono ?_
      rintro e w1 ⟨rfl, hs1, hf1⟩
      go_wp2_with fail
      go_ret
      exact ⟨rfl, hs1, ((HF.out.mono (fun _ _ h => h.elim)).trans' HFR.out).trans' hf1⟩
    · have hlt2 : j < k := by omega
      have hnn : wordAt rs q1 (Ts.getD j ByteArray.empty) = false := by rcases hq1 with rfl | rfl; exact (HNO.out j hlt2).1; exact (HNO.out j hlt2).2
      have hqq : wordTo rs q1 (Ts.getD j ByteArray.empty) = skip rs [0] p := one_stay hnn (by rcases hq1 with rfl | rfl; rfl; exact HSK.out)
      rw [hnn, hqq] at HWW
      have HQE := Lib.hid (show ∃ q2, q2 = skip rs [0] p from ⟨_, rfl⟩)
      clear hnn hqq hq1
      generalize hT0 : Ts.getD j ByteArray.empty = T at *
      clear hT0
      go_wp2_with fail
      refine HWW.out.mono ?_
      rintro e w1 ⟨rfl, hs1, hf1⟩
      have HS1 := Lib.hid hs1
      have HX1 := Lib.hid (box_keep HXX.out hbl hf1)
      have HF1 := Lib.hid (HFR.out.trans' hf1)
      clear hs1 hf1
      go_wp2_with fail
      go_roundw
      case rel => exact ⟨j + 1, _, by go_num, by omega, .inr rfl, HS1.out, HX1.out, HF1.out⟩
      case measure => simp only [intOf]; omega

end Go.Proofs.YtebddgdkndmpjaaGreatDoor
