/- IRIs, vars, and what the parser says of groups: walked. -/
import Derived.Test.YtebddgdkndmpjaaGreatDoorBg
import Derived.Test.YtebddgdkndmpjaaGreatDoorBf
import Derived.Test.YtebddgdkndmpjaaGreatDoorGl
import Derived.Test.YtebddgdkndmpjaaGreatDoorGv
import Derived.Deep.CutBlock
import Derived.Deep.RegionLawGrows
import Derived.Deep.Cut
import Derived.Deep.CutRange
import Derived.WalkKit
import Derived.WalkLawsBesides
import Derived.WalkSpells
import Derived.Deep.QuietTactic
import Derived.BigRegion
import Derived.BigQuiet
import Derived.Lib.Hide
import Derived.Outline
import Derived.Deep.AppendLies
import Derived.Deep.RegionLaw
import Derived.Deep.RegionWith
import Derived.Deep.RegionHeld3
import Derived.Deep.LoopGhost
import Derived.Deep.DeepFit
import Derived.Laws.ResultCell
import Derived.Laws.RangeAny
import Derived.Deep.MidRow
import Derived.StillTailTactics
import Derived.OpenShut
namespace Go.Proofs.YtebddgdkndmpjaaGreatDoor
set_option linter.unusedVariables false
open Go.RowKit Go

theorem ascii_of {T : ByteArray} (h : T.data.toList.all (fun c => decide (c.toNat < 128)) = true) : Ascii T := by
  intro i hi
  have := List.all_eq_true.1 h (T[i]'hi) (by
    show T.data[i] ∈ T.data.toList
    exact Array.getElem_mem_toList (by simpa using hi))
  simpa using this
theorem isAt_one (rs : List Int) (p : Nat) (x : UInt8) : isAt rs p (txt ⟨#[x]⟩) = decide (peekOf rs p = (x.toNat : Int)) := by
  by_cases h : peekOf rs p = (x.toNat : Int)
  · rw [decide_eq_true h]
    refine isAt_true fun i hi => ?_
    have hi0 : i = 0 := by
      rw [txt_len] at hi
      have : (⟨#[x]⟩ : ByteArray).size = 1 := rfl
      omega
    subst hi0
    exact h
  · rw [decide_eq_false h]
    exact isAt_false (i := 0) (by rw [txt_len]; exact Nat.one_pos) h
theorem Bu.fr {w w' : World} {B b x : Nat} {l : List UInt8} {cs : Array Value} (h : Bu w B b l) (hx : Blk w x 239 cs) (hf : Fr (fun j => j = x) w w') : Bu w' B b l := by
  obtain ⟨p, v, hb, hp, hr, hB⟩ := h
  exact ⟨p, v, hb.fr hf (fun e => Blk.ne_ hb hx (by decide) e), hp, ownsRow_fr hr hf (fun j hj e => own_blk_ne hr hx (by decide) (by rw [hj, e])), hB⟩
theorem Bu.frF {w w' : World} {B b : Nat} {l : List UInt8} (h : Bu w B b l) (hf : Fr (fun _ => False) w w') : Bu w' B b l := by
  obtain ⟨p, v, hb, hp, hr, hB⟩ := h
  exact ⟨p, v, hb.fr hf (fun e => e), hp, ownsRow_fr hr hf (fun j hj e => e), hB⟩
theorem Sc.old {w w1 w' : World} {b c p q B : Nat} {A : Option Addr} {rs : List Int} (h : Sc w1 b A c rs p) (h0 : Sc w b A c rs q) (hB : w.heap.size ≤ B) (hf : Fr (fun j => B ≤ j) w1 w') : Sc w' b A c rs p :=
  h.fr hf (fun e => by have := h0.blk.lt; omega) (fun j hj e => by have := (h0.row.lt j hj).2; omega)

def IriPost (w : World) (b : Nat) (A : Option Addr) (c : Nat) (rs : List Int) (q : Nat) (v : Value) (e : Ending) (w' : World) : Prop := e = .returned v ∧ Sc w' b A c rs q ∧ Fr (fun j => j = b) w w'

/-- Plain signs follow, then the closing bracket. -/
def Body (rs : List Int) (p : Nat) (l : List UInt8) : Prop :=
  peekOf rs p = 60 ∧ (∀ i, i < l.length → peekOf rs (p + 1 + i) = ((l.getD i 0).toNat : Int) ∧ (l.getD i 0).toNat < 128 ∧ (l.getD i 0).toNat ≠ 10 ∧ (l.getD i 0).toNat ≠ 62 ∧ (l.getD i 0).toNat ≠ 92) ∧ peekOf rs (p + 1 + l.length) = 62

set_option maxRecDepth 100000 in
set_option maxHeartbeats 4000000 in
theorem ntiri_sc (l : List UInt8) (b c p : Nat) (A : Option Addr) (rs : List Int) (w : World) (hl : l ≠ []) (hl2 : l.length ≤ 1000) (hbd : Body rs p l) (h : Sc w b A c rs p) :
    Calls Tryz.prog 292 #[.pointer (some ⟨b, 0, none⟩)] w (ScPost w b A c rs (p + l.length + 2) (.tuple #[.string ⟨l.toArray⟩, .bool true])) := by
  obtain ⟨hp0, hbody, hend⟩ := hbd
  have HI := Lib.hid (fun T q w1 hT hs h1 => is_sc T b c q A rs w1 hT hs h1)
  have HE := Lib.hid (fun q w1 h1 => end_sc b c q A rs w1 h1)
  have HK := Lib.hid (fun q w1 h1 => peek_sc b c q A rs w1 h1)
  have HN := Lib.hid (fun q w1 h1 => next_sc b c q A rs w1 h1)
  have I0 := Lib.hid (is_sc ⟨#[60]⟩ b c p A rs w (ascii_of (by decide)) (by decide) h)
  rw [isAt_one, hp0] at I0
  unfold IsPost at I0
  simp only [show decide ((60 : Int) = ((60 : UInt8).toNat : Int)) = true from rfl, if_true] at I0
  have HS := Lib.hid h
  have HBO := Lib.hid hbody
  have HEN := Lib.hid hend
  have hbl := h.blk.lt
  clear h hbody hend hp0
  go_enter Tryz.func292, Tryz.ntmps292
  go_wp2_with fail
  refine I0.out.mono ?_
  rintro e w1 ⟨rfl, hs1, hf1⟩
  rw [show p + (⟨#[60]⟩ : ByteArray).size = p + 1 from rfl] at hs1
  have HS1 := Lib.hid hs1
  have HF1 := Lib.hid hf1
  have hsz1 := hf1.size
  have BU0 := Lib.hid (show Bu (w1.alloc (.cells #[.pointer none, .slice none 0 0] 263)) w1.heap.size w1.heap.size [] from ⟨_, _, Blk.new _ _ _, .inl rfl, World.ownsRow_nil _ _ _ _, Nat.le_refl _⟩)
  clear hs1 hf1
  go_wp2_with fail
  go_loopg [14] (l.length) (fun g nv wr => ∃ i : Nat, l.length ≤ i + g ∧ i ≤ l.length ∧ Sc wr b A c rs (p + 1 + i) ∧ Bu wr w1.heap.size w1.heap.size (l.take i) ∧ Fr (fun j => j = b ∨ w1.heap.size ≤ j) w wr ∧ w1.heap.size < wr.heap.size)
  case atStart => exact ⟨0, by omega, Nat.zero_le _, HS1.out.frF ((Fr.refl _ _).alloc _), BU0.out, (HF1.out.mono (fun _ _ e => .inl e)).alloc _, by simp⟩
  case round =>
    obtain ⟨i, hg, hi, hs, hbu, hfr, hszw⟩ := hrel
    have HSW := Lib.hid hs
    have HBU := Lib.hid hbu
    have HFR := Lib.hid hfr
    have HEE := Lib.hid (HE.out (p + 1 + i) wr hs)
    have HKK := Lib.hid (fun w1 h1 => HK.out (p + 1 + i) w1 h1)
    clear hs hbu hfr
    by_cases hil : i < l.length
    · obtain ⟨hpk, hc1, hc2, hc3, hc4⟩ := HBO.out i hil
      have hplt := peek_lt (rs := rs) (p := p + 1 + i) (by rw [hpk]; omega)
      rw [decide_eq_false (by omega)] at HEE
      rw [hpk] at HKK
      have I1 := Lib.hid (fun w1 h1 => HI.out ⟨#[62]⟩ (p + 1 + i) w1 (ascii_of (by decide)) (by decide) h1)
      have I2 := Lib.hid (fun w1 h1 => HI.out ⟨#[92]⟩ (p + 1 + i) w1 (ascii_of (by decide)) (by decide) h1)
      rw [isAt_one, hpk, decide_eq_false (by show ¬ ((l.getD i 0).toNat : Int) = 62; omega)] at I1
      rw [isAt_one, hpk, decide_eq_false (by show ¬ ((l.getD i 0).toNat : Int) = 92; omega)] at I2
      have HNN := Lib.hid (fun w1 h1 => HN.out (p + 1 + i) w1 h1)
      unfold nextAt at HNN
      rw [if_pos hplt, hpk] at HNN
      have HW := Lib.hid (fun w2 hB hu => wrune_any w1.heap.size w1.heap.size (l.take i) (l.getD i 0) w2 hc1 (by rw [List.length_take]; omega) hB hu)
      have HST := Lib.hid (show l.take i ++ [l.getD i 0] = l.take (i + 1) by rw [List.take_add_one, List.getD_eq_getElem?_getD, List.getElem?_eq_getElem hil]; rfl)
      rw [HST.out] at HW
      unfold IsPost at I1 I2
      simp only [Bool.false_eq_true, if_false] at I1 I2
      generalize (l.getD i 0).toNat = r at *
      have hr10 : ((r : Int) == 10) = false := by simp; omega
      go_wp2_with fail
      refine HEE.out.mono ?_
      rintro e w2 ⟨rfl, hf2⟩
      have HS2 := Lib.hid (HSW.out.frF hf2)
      have HB2 := Lib.hid (HBU.out.frF hf2)
      have HF2 := Lib.hid (HFR.out.trans hf2 (fun _ _ h => h.elim))
      have hz2 := hf2.size
      clear hf2
      go_wp2_with fail
      refine (HKK.out _ HS2.out).mono ?_
      rintro e w3 ⟨rfl, hf3⟩
      have HS3 := Lib.hid (HS2.out.frF hf3)
      have HB3 := Lib.hid (HB2.out.frF hf3)
      have HF3 := Lib.hid (HF2.out.trans hf3 (fun _ _ h => h.elim))
      have hz3 := hf3.size
      clear hf3
      go_wp2_with fail
      refine (I1.out _ HS3.out).mono ?_
      rintro e w4 ⟨rfl, hs4, hf4⟩
      have HS4 := Lib.hid hs4
      have HB4 := Lib.hid (HB3.out.fr HS3.out.blk hf4)
      have HF4 := Lib.hid (HF3.out.trans hf4 (fun _ _ h => .inl h))
      have hz4 := hf4.size
      clear hf4 hs4
      go_wp2_with fail
      refine (I2.out _ HS4.out).mono ?_
      rintro e w5 ⟨rfl, hs5, hf5⟩
      have HS5 := Lib.hid hs5
      have HB5 := Lib.hid (HB4.out.fr HS4.out.blk hf5)
      have HF5 := Lib.hid (HF4.out.trans hf5 (fun _ _ h => .inl h))
      have hz5 := hf5.size
      clear hf5 hs5
      go_wp2_with fail
      refine (HNN.out _ HS5.out).mono ?_
      rintro e w6 ⟨rfl, hs6, hf6⟩
      have HS6 := Lib.hid hs6
      have HB6 := Lib.hid (HB5.out.fr HS5.out.blk hf6)
      have HF6 := Lib.hid (HF5.out.trans hf6 (fun _ _ h => .inl h))
      have hz6 := hf6.size
      clear hf6 hs6
      go_wp2_with fail
      refine (HW.out _ (by omega) HB6.out).mono ?_
      rintro e w7 ⟨⟨kk, rfl⟩, hb7, hf7⟩
      have HS7 := Lib.hid (HS6.out.old HS.out hsz1 hf7)
      have HB7 := Lib.hid hb7
      have HF7 := Lib.hid (HF6.out.trans hf7 (fun _ _ h => .inr h))
      have hz7 := hf7.size
      clear hf7 hb7
      go_wp2_with fail
      go_roundg (l.length - (i + 1))
      case measure => omega
      case rel => exact ⟨i + 1, by omega, by omega, HS7.out, HB7.out, HF7.out, by omega⟩
    · have hie : i = l.length := by omega
      subst hie
      have hpk := HEN.out
      have hplt := peek_lt (rs := rs) (p := p + 1 + l.length) (by rw [hpk]; omega)
      rw [decide_eq_false (by omega)] at HEE
      rw [hpk] at HKK
      have I1 := Lib.hid (fun w1 h1 => HI.out ⟨#[62]⟩ (p + 1 + l.length) w1 (ascii_of (by decide)) (by decide) h1)
      rw [isAt_one, hpk] at I1
      unfold IsPost at I1
      simp only [show decide ((62 : Int) = ((62 : UInt8).toNat : Int)) = true from rfl, if_true] at I1
      have HST := Lib.hid (fun w2 hu => bstring_any w1.heap.size w1.heap.size l w2 hl hu)
      rw [List.take_length] at HBU
      go_wp2_with fail
      refine HEE.out.mono ?_
      rintro e w2 ⟨rfl, hf2⟩
      have HS2 := Lib.hid (HSW.out.frF hf2)
      have HB2 := Lib.hid (HBU.out.frF hf2)
      have HF2 := Lib.hid (HFR.out.trans hf2 (fun _ _ h => h.elim))
      clear hf2
      go_wp2_with fail
      refine (HKK.out _ HS2.out).mono ?_
      rintro e w3 ⟨rfl, hf3⟩
      have HS3 := Lib.hid (HS2.out.frF hf3)
      have HB3 := Lib.hid (HB2.out.frF hf3)
      have HF3 := Lib.hid (HF2.out.trans hf3 (fun _ _ h => h.elim))
      clear hf3
      go_wp2_with fail
      refine (I1.out _ HS3.out).mono ?_
      rintro e w4 ⟨rfl, hs4, hf4⟩
      have HS4 := Lib.hid hs4
      have HB4 := Lib.hid (HB3.out.fr HS3.out.blk hf4)
      have HF4 := Lib.hid (HF3.out.trans hf4 (fun _ _ h => .inl h))
      clear hf4 hs4
      go_wp2_with fail
      refine (HST.out _ HB4.out).mono ?_
      rintro e w5 ⟨rfl, hf5⟩
      have HS5 := Lib.hid (HS4.out.old HS.out hsz1 hf5)
      have HF5 := Lib.hid (HF4.out.trans hf5 (fun _ _ h => .inr h))
      clear hf5
      go_wp2_with fail
      go_ret2
      refine ⟨rfl, ?_, HF5.out.mono (fun j hj h => h.elim id (fun h => absurd h (by omega)))⟩
      have hs := HS5.out
      rw [show p + 1 + l.length + (⟨#[62]⟩ : ByteArray).size = p + l.length + 2 by show p + 1 + l.length + 1 = _; omega] at hs
      exact hs

set_option maxRecDepth 100000 in
set_option maxHeartbeats 4000000 in
theorem form_iri (l : List UInt8) (b c p : Nat) (A : Option Addr) (rs : List Int) (w : World) (hl : l ≠ []) (hl2 : l.length ≤ 1000) (hbd : Body rs p l) (h : Sc w b A c rs p) :
    Calls Tryz.prog 259 #[.pointer (some ⟨b, 0, none⟩)] w (ScPost w b A c rs (p + l.length + 2) (.tuple #[(Tm.iri ⟨l.toArray⟩).val, .bool true])) := by
  have HK := Lib.hid (peek_sc b c p A rs w h)
  rw [hbd.1] at HK
  have HN := Lib.hid (fun w1 h1 => ntiri_sc l b c p A rs w1 hl hl2 hbd h1)
  have HS := Lib.hid h
  unfold Tm.val
  generalize (⟨l.toArray⟩ : ByteArray) = t at *
  generalize p + l.length + 2 = q at *
  clear h hbd
  go_enter Tryz.func259, Tryz.ntmps259
  go_wp2_with fail
  refine HK.out.mono ?_
  rintro e w1 ⟨rfl, hf1⟩
  have HN1 := Lib.hid (HN.out w1 (HS.out.frF hf1))
  go_wp2_with fail
  refine HN1.out.mono ?_
  rintro e w2 ⟨rfl, hs2, hf2⟩
  go_wp2_with fail
  go_ret2
  exact ⟨rfl, hs2, (hf1.mono (fun _ _ h => h.elim)).trans' hf2⟩

set_option maxRecDepth 100000 in
set_option maxHeartbeats 4000000 in
theorem read_iri (l : List UInt8) (b c p : Nat) (A : Option Addr) (rs : List Int) (w : World) (hl : l ≠ []) (hl2 : l.length ≤ 1000) (hgd : (Tm.iri ⟨l.toArray⟩).good = true) (hbd : Body rs p l) (h : Sc w b A c rs p) :
    Calls Tryz.prog 206 #[.pointer (some ⟨b, 0, none⟩)] w (ScPost w b A c rs (p + l.length + 2) (.tuple #[(Tm.iri ⟨l.toArray⟩).val, .int .i64 ((p + l.length + 2 : Nat) : Int), .int .i64 0])) := by
  have HP := Lib.hid (place_sc b c p A rs w h)
  have HF := Lib.hid (form_iri l b c p A rs w hl hl2 hbd h)
  have HP2 := Lib.hid (fun q w1 h1 => place_sc b c q A rs w1 h1)
  have HG := Lib.hid (fun w1 => tgood_any (Tm.iri ⟨l.toArray⟩) w1 (show (⟨l.toArray⟩ : ByteArray).size ≤ 4096 by show l.toArray.size ≤ 4096; simp; omega))
  rw [hgd] at HG
  unfold Tm.val at *
  generalize (⟨l.toArray⟩ : ByteArray) = t at *
  generalize p + l.length + 2 = q at *
  clear h hbd hgd
  go_enter Tryz.func206, Tryz.ntmps206
  go_wp2_with fail
  refine HP.out.mono ?_
  rintro e w1 ⟨rfl, rfl⟩
  go_wp2_with fail
  refine HF.out.mono ?_
  rintro e w2 ⟨rfl, hs2, hf2⟩
  have HPP := Lib.hid (HP2.out q w2 hs2)
  go_wp2_with fail
  refine HPP.out.mono ?_
  rintro e w3 ⟨rfl, rfl⟩
  go_wp2_with fail
  refine (HG.out _).mono ?_
  rintro e w4 ⟨rfl, hf4⟩
  go_wp2_with fail
  go_ret3
  exact ⟨rfl, hs2.frF hf4, hf2.trans hf4 (fun _ _ h => h.elim)⟩

set_option maxRecDepth 100000 in
set_option maxHeartbeats 4000000 in
theorem term_iri (l : List UInt8) (b c p q : Nat) (A : Option Addr) (rs : List Int) (w : World) (hl : l ≠ []) (hl2 : l.length ≤ 1000) (hgd : (Tm.iri ⟨l.toArray⟩).good = true) (hq : skip rs [0] p = q) (hbd : Body rs q l) (h : Sc w b A c rs p) :
    Calls Tryz.prog 145 #[.agg #[.pointer (some ⟨b, 0, none⟩)]] w (ScPost w b A c rs (q + l.length + 2) ((Tm.iri ⟨l.toArray⟩).val)) := by
  have hf : Fr (fun _ => False) w (w.alloc (.cells #[.pointer (some ⟨b, 0, none⟩)] 108)) := (Fr.refl _ _).alloc _
  have HB := Lib.hid (blanks_sc b c p A rs _ (h.frF hf))
  rw [hq] at HB
  have HR := Lib.hid (fun w1 h1 => read_iri l b c q A rs w1 hl hl2 hgd hbd h1)
  have HX := Lib.hid (Blk.new w 108 #[.pointer (some ⟨b, 0, none⟩)])
  have HF := Lib.hid hf
  have hbl := h.blk.lt
  unfold Tm.val at *
  generalize (⟨l.toArray⟩ : ByteArray) = t at *
  generalize q + l.length + 2 = q2 at *
  clear h hf hgd hbd hq
  go_enter Tryz.func145, Tryz.ntmps145
  go_wp2_with fail
  refine HB.out.mono ?_
  rintro e w1 ⟨⟨k, rfl⟩, hs1, hf1⟩
  have hx1 := box_keep HX.out hbl hf1
  have x1 : w1.cell? ⟨w.heap.size, 0, none⟩ = some (.pointer (some ⟨b, 0, none⟩)) := hx1.cell 0
  have HRR := Lib.hid (HR.out w1 hs1)
  have HF1 := Lib.hid ((HF.out.mono (T := fun j => j = b) (fun _ _ h => h.elim)).trans' hf1)
  clear hx1 hs1 hf1
  go_wp2_with fail
  refine HRR.out.mono ?_
  rintro e w2 ⟨rfl, hs2, hf2⟩
  go_wp2_with fail
  go_ret
  exact ⟨rfl, hs2, HF1.out.trans' hf2⟩

theorem as_i1 (x : Value) (w : World) : (Instr.typeAssert (.iface 198 x) 35 198 false).run Tryz.prog w = .ok x w := by kernel_rfl
theorem fd_198 (t : ByteArray) (w : World) : (Instr.field 198 (.agg #[.string t]) 0).run Tryz.prog w = .ok (.string t) w := by kernel_rfl
attribute [local go_sem] as_i1 fd_198
set_option maxRecDepth 100000 in
set_option maxHeartbeats 4000000 in
theorem iri_sc (l : List UInt8) (b c p q : Nat) (A : Option Addr) (rs : List Int) (w : World) (hl : l ≠ []) (hl2 : l.length ≤ 1000) (hgd : (Tm.iri ⟨l.toArray⟩).good = true) (hq : skip rs [0] p = q) (hq2 : skip rs [0] q = q) (hbd : Body rs q l) (h : Sc w b A c rs p) :
    Calls Tryz.prog 94 #[.agg #[.pointer (some ⟨b, 0, none⟩)]] w (ScPost w b A c rs (q + l.length + 2) (.string ⟨l.toArray⟩)) := by
  have hf : Fr (fun _ => False) w (w.alloc (.cells #[.pointer (some ⟨b, 0, none⟩)] 108)) := (Fr.refl _ _).alloc _
  have HN := Lib.hid (nextsign_sc b c p A rs _ (h.frF hf))
  rw [hq, hbd.1] at HN
  have HT := Lib.hid (fun w1 h1 => term_iri l b c q q A rs w1 hl hl2 hgd hq2 hbd h1)
  have HX := Lib.hid (Blk.new w 108 #[.pointer (some ⟨b, 0, none⟩)])
  have HF := Lib.hid hf
  have hbl := h.blk.lt
  unfold Tm.val at *
  generalize (⟨l.toArray⟩ : ByteArray) = t at *
  generalize q + l.length + 2 = q2 at *
  clear h hf hgd hbd hq hq2
  go_enter Tryz.func94, Tryz.ntmps94
  go_wp2_with fail
  refine HN.out.mono ?_
  rintro e w1 ⟨rfl, hs1, hf1⟩
  have hx1 := box_keep HX.out hbl hf1
  have x1 : w1.cell? ⟨w.heap.size, 0, none⟩ = some (.pointer (some ⟨b, 0, none⟩)) := hx1.cell 0
  have HTT := Lib.hid (HT.out w1 hs1)
  have HF1 := Lib.hid ((HF.out.mono (T := fun j => j = b) (fun _ _ h => h.elim)).trans' hf1)
  clear hx1 hs1 hf1
  go_wp2_with fail
  refine HTT.out.mono ?_
  rintro e w2 ⟨rfl, hs2, hf2⟩
  go_wp2_with fail
  go_ret
  exact ⟨rfl, hs2, HF1.out.trans' hf2⟩

theorem conv_rune (r : Int) (w : World) : (convert 21 9 (.int .i32 r)).run Tryz.prog w = .ok (.string (Utf8.encode r)) w := by
  simp [convert, run_underlying Tryz.underlying21, run_underlying Tryz.underlying9]
  rfl
theorem encode_ascii (c : UInt8) (h : c.toNat < 128) : Utf8.encode (c.toNat : Int) = ⟨#[c]⟩ := by
  unfold Utf8.encode
  have hv : Utf8.valid (c.toNat : Int) = true := by
    unfold Utf8.valid
    simp
    omega
  simp [hv, h]

theorem str_push (l : List UInt8) (i : Nat) (c : UInt8) (h : l.take (i + 1) = l.take i ++ [c]) : (⟨(l.take i).toArray⟩ ++ ⟨#[c]⟩ : ByteArray) = ⟨(l.take (i + 1)).toArray⟩ := by
  rw [h]
  apply ByteArray.ext
  rw [ByteArray.data_append]
  simp

/-- A name of letters follows a question mark. -/
def Name (rs : List Int) (s : Nat) (l : List UInt8) : Prop :=
  peekOf rs s = 63 ∧ clsOf (peekOf rs (s + 1)) = 1 ∧ (∀ i, i < l.length → peekOf rs (s + 1 + i) = ((l.getD i 0).toNat : Int) ∧ (l.getD i 0).toNat < 128 ∧ letterOf ((l.getD i 0).toNat : Int) = true) ∧ letterOf (peekOf rs (s + 1 + l.length)) = false

set_option maxRecDepth 100000 in
set_option maxHeartbeats 4000000 in
theorem variable_sc (l : List UInt8) (b c p s : Nat) (A : Option Addr) (rs : List Int) (w : World) (hl2 : l.length ≤ 1000) (hs : skip rs [0] p = s) (hnm : Name rs s l) (h : Sc w b A c rs p) :
    Calls Tryz.prog 151 #[.agg #[.pointer (some ⟨b, 0, none⟩)]] w (ScPost w b A c rs (s + 1 + l.length) (.string ⟨l.toArray⟩)) := by
  obtain ⟨h63, hcl, hbody, hend⟩ := hnm
  have hf : Fr (fun _ => False) w (w.alloc (.cells #[.pointer (some ⟨b, 0, none⟩)] 108)) := (Fr.refl _ _).alloc _
  have HM := Lib.hid (must_sc ⟨#[63]⟩ b c p (s + 1) A rs _ (ascii_of (by decide)) (by decide) (by unfold markAt; rw [hs, isAt_one, h63]; rfl) (by unfold markTo markAt; rw [hs, isAt_one, h63]; rfl) (h.frF hf))
  have HK := Lib.hid (fun q w1 h1 => peek_sc b c q A rs w1 h1)
  have HC := Lib.hid (fun w1 => cls_any (peekOf rs (s + 1)) w1 (peek_ok h (s + 1)))
  rw [hcl] at HC
  have HL := Lib.hid (fun q w1 => letter_any (peekOf rs q) w1 (peek_ok h q))
  have HN := Lib.hid (fun q w1 h1 => next_sc b c q A rs w1 h1)
  have HX := Lib.hid (Blk.new w 108 #[.pointer (some ⟨b, 0, none⟩)])
  have HF := Lib.hid hf
  have HBO := Lib.hid hbody
  have HEN := Lib.hid hend
  have hbl := h.blk.lt
  clear h hf hbody hend hcl hs h63
  go_enter Tryz.func151, Tryz.ntmps151
  go_wp2_with fail
  refine HM.out.mono ?_
  rintro e w1 ⟨rfl, hs1, hf1⟩
  have hx1 := box_keep HX.out hbl hf1
  have x1 : w1.cell? ⟨w.heap.size, 0, none⟩ = some (.pointer (some ⟨b, 0, none⟩)) := hx1.cell 0
  have HKK := Lib.hid (HK.out (s + 1) w1 hs1)
  have HX1 := Lib.hid hx1
  have HS1 := Lib.hid hs1
  have HF1 := Lib.hid ((HF.out.mono (T := fun j => j = b) (fun _ _ h => h.elim)).trans' hf1)
  generalize peekOf rs (s + 1) = pk at *
  clear hx1 hs1 hf1
  go_wp2_with fail
  refine HKK.out.mono ?_
  rintro e w2 ⟨rfl, hf2⟩
  go_wp2_with fail
  refine (HC.out _).mono ?_
  rintro e w3 ⟨rfl, rfl⟩
  have HX2 := Lib.hid (HX1.out.fr hf2 (fun h => h))
  have HS2 := Lib.hid (HS1.out.frF hf2)
  have HF2 := Lib.hid (HF1.out.trans hf2 (fun _ _ h => h.elim))
  clear hf2
  go_wp2_with fail
  go_loopg [3] (l.length) (fun g nv wr => ∃ i : Nat, nv = .string ⟨(l.take i).toArray⟩ ∧ l.length ≤ i + g ∧ i ≤ l.length ∧ Sc wr b A c rs (s + 1 + i) ∧ Blk wr w.heap.size 108 #[.pointer (some ⟨b, 0, none⟩)] ∧ Fr (fun j => j = b) w wr)
  case atStart => exact ⟨0, rfl, by omega, Nat.zero_le _, HS2.out, HX2.out, HF2.out⟩
  case round =>
    obtain ⟨i, rfl, hg, hi, hs, hx, hfr⟩ := hrel
    have HKI := Lib.hid (HK.out (s + 1 + i) wr hs)
    have HLI := Lib.hid (fun w1 => HL.out (s + 1 + i) w1)
    have HSI := Lib.hid hs
    have HXI := Lib.hid hx
    have HFI := Lib.hid hfr
    have x0 : wr.cell? ⟨w.heap.size, 0, none⟩ = some (.pointer (some ⟨b, 0, none⟩)) := hx.cell 0
    clear hs hx hfr x1
    by_cases hil : i < l.length
    · obtain ⟨hpk, hc1, hlt⟩ := HBO.out i hil
      have hplt := peek_lt (rs := rs) (p := s + 1 + i) (by rw [hpk]; omega)
      have HNI := Lib.hid (fun w1 h1 => HN.out (s + 1 + i) w1 h1)
      unfold nextAt at HNI
      rw [if_pos hplt, hpk] at HNI
      rw [hpk] at HKI HLI
      rw [hlt] at HLI
      have hcv := conv_rune ((l.getD i 0).toNat : Int)
      rw [encode_ascii _ hc1] at hcv
      have HTK := Lib.hid (show l.take (i + 1) = l.take i ++ [l.getD i 0] by rw [List.take_add_one, List.getD_eq_getElem?_getD, List.getElem?_eq_getElem hil]; rfl)
      generalize l.getD i 0 = cu at *
      generalize hrr : cu.toNat = r at *
      have HRR := Lib.hid hrr
      clear hrr
      go_wp2_with fail
      refine HKI.out.mono ?_
      rintro e w4 ⟨rfl, hf4⟩
      have hx4 := HXI.out.fr hf4 (fun h => h)
      have x4 : w4.cell? ⟨w.heap.size, 0, none⟩ = some (.pointer (some ⟨b, 0, none⟩)) := hx4.cell 0
      have HX4 := Lib.hid hx4
      have HS4 := Lib.hid (HSI.out.frF hf4)
      have HF4 := Lib.hid (HFI.out.trans hf4 (fun _ _ h => h.elim))
      clear hf4 hx4 x0
      go_wp2_with fail
      refine (HLI.out _).mono ?_
      rintro e w5 ⟨rfl, rfl⟩
      have HNN := Lib.hid (HNI.out _ HS4.out)
      go_wp2_with fail
      refine HNN.out.mono ?_
      rintro e w6 ⟨rfl, hs6, hf6⟩
      have HS6 := Lib.hid hs6
      have HX6 := Lib.hid (box_keep HX4.out hbl hf6)
      have HF6 := Lib.hid (HF4.out.trans' hf6)
      clear hs6 hf6
      go_wp2_with fail
      go_roundg (l.length - (i + 1))
      case measure => omega
      case rel => exact ⟨i + 1, by rw [str_push l i cu HTK.out], by omega, by omega, HS6.out, HX6.out, HF6.out⟩
    · have hie : i = l.length := by omega
      subst hie
      rw [HEN.out] at HLI
      rw [List.take_length]
      generalize peekOf rs (s + 1 + l.length) = pe at *
      go_wp2_with fail
      refine HKI.out.mono ?_
      rintro e w4 ⟨rfl, hf4⟩
      go_wp2_with fail
      refine (HLI.out _).mono ?_
      rintro e w5 ⟨rfl, rfl⟩
      go_wp2_with fail
      go_ret
      exact ⟨rfl, HSI.out.frF hf4, HFI.out.trans hf4 (fun _ _ h => h.elim)⟩

/-- What is selected: a var. -/
def selV (l : List UInt8) : Value := .agg #[.string ⟨l.toArray⟩, .string ⟨#[]⟩, .string ⟨#[]⟩]

set_option maxRecDepth 100000 in
set_option maxHeartbeats 4000000 in
theorem selected_sc (l : List UInt8) (b c p s : Nat) (A : Option Addr) (rs : List Int) (w : World) (hl2 : l.length ≤ 1000) (hs : skip rs [0] p = s) (hs2 : skip rs [0] s = s) (hnm : Name rs s l) (h : Sc w b A c rs p) :
    Calls Tryz.prog 96 #[.agg #[.pointer (some ⟨b, 0, none⟩)]] w (ScPost w b A c rs (s + 1 + l.length) (selV l)) := by
  have hf : Fr (fun _ => False) w ((w.alloc (.cells #[.pointer (some ⟨b, 0, none⟩)] 108)).alloc (.cells #[.string ⟨#[]⟩, .string ⟨#[]⟩, .string ⟨#[]⟩] 176)) := ((Fr.refl _ _).alloc _).alloc _
  have HM := Lib.hid (mark_sc ⟨#[40]⟩ b c p A rs _ (ascii_of (by decide)) (by decide) (h.frF hf))
  have e1 : markAt rs p ⟨#[40]⟩ = false := by unfold markAt; rw [hs, isAt_one, hnm.1]; rfl
  have e2 : markTo rs p ⟨#[40]⟩ = s := by unfold markTo; rw [e1, hs]; simp
  rw [e1, e2] at HM
  have HV := Lib.hid (fun w1 h1 => variable_sc l b c s s A rs w1 hl2 hs2 hnm h1)
  have hx := (Blk.new w 108 #[.pointer (some ⟨b, 0, none⟩)]).alloc (.cells #[.string ⟨#[]⟩, .string ⟨#[]⟩, .string ⟨#[]⟩] 176)
  have hz : (w.alloc (.cells #[.pointer (some ⟨b, 0, none⟩)] 108)).heap.size = w.heap.size + 1 := by simp
  have hy := Blk.new (w.alloc (.cells #[.pointer (some ⟨b, 0, none⟩)] 108)) 176 #[.string ⟨#[]⟩, .string ⟨#[]⟩, .string ⟨#[]⟩]
  rw [hz] at hy
  have HX := Lib.hid hx
  have HY := Lib.hid hy
  have HF := Lib.hid hf
  have hbl := h.blk.lt
  unfold selV
  generalize (⟨l.toArray⟩ : ByteArray) = t at *
  generalize s + 1 + l.length = q at *
  clear h hf hx hy hz e1 e2 hs hs2 hnm
  go_enter Tryz.func96, Tryz.ntmps96
  go_wp2_with fail
  refine HM.out.mono ?_
  rintro e w1 ⟨rfl, hs1, hf1⟩
  have hx1 := box_keep HX.out hbl hf1
  have x1 : w1.cell? ⟨w.heap.size, 0, none⟩ = some (.pointer (some ⟨b, 0, none⟩)) := hx1.cell 0
  have HVV := Lib.hid (HV.out w1 hs1)
  have HY1 := Lib.hid (HY.out.fr hf1 (fun e => by omega))
  have HF1 := Lib.hid ((HF.out.mono (T := fun j => j = b) (fun _ _ h => h.elim)).trans' hf1)
  clear hx1 hs1 hf1
  go_wp2_with fail
  refine HVV.out.mono ?_
  rintro e w2 ⟨rfl, hs2, hf2⟩
  have hy2 := HY1.out.fr hf2 (fun e => by omega)
  have hl2 := hy2.lt
  have a0 := hy2.cell 0
  have a1 := hy2.cell 1
  have a2 := hy2.cell 2
  have f0 := hy2.frozen 0
  have f1 := hy2.frozen 1
  have f2 := hy2.frozen 2
  have hy3 := hy2.set_ 0 (.string t)
  have hl3 := hy3.lt
  have a3 := hy3.cell 1
  have a4 := hy3.cell 2
  have f3 := hy3.frozen 1
  have f4 := hy3.frozen 2
  have hy4 := hy3.set_ 1 (.string ⟨#[]⟩)
  have hl4 := hy4.lt
  have a5 := hy4.cell 2
  have f5 := hy4.frozen 2
  have hy5 := hy4.set_ 2 (.string ⟨#[]⟩)
  simp only [List.setIfInBounds_toArray, List.set_cons_zero, List.set_cons_succ, List.getElem?_toArray, List.getElem?_cons_zero, List.getElem?_cons_succ] at a0 a1 a2 a3 a4 a5 hy5
  have FS : Fr (fun j => j = w.heap.size + 1) w2 (((w2.setCell ⟨w.heap.size + 1, 0, none⟩ (.string t)).setCell ⟨w.heap.size + 1, 1, none⟩ (.string ⟨#[]⟩)).setCell ⟨w.heap.size + 1, 2, none⟩ (.string ⟨#[]⟩)) := (((Fr.refl (fun j => j = w.heap.size + 1) w2).setCell ⟨w.heap.size + 1, 0, none⟩ (fun _ => rfl) _).setCell ⟨w.heap.size + 1, 1, none⟩ (fun _ => rfl) _).setCell ⟨w.heap.size + 1, 2, none⟩ (fun _ => rfl) _
  have HY5 := Lib.hid hy5
  have HS5 := Lib.hid (hs2.fr FS (fun e => by omega) (fun j hj e => own_blk_ne hs2.row hy2 (by decide) (by rw [hj, e])))
  have HF5 := Lib.hid (((HF1.out.trans' hf2).trans (T := fun j => j = b ∨ j = w.heap.size + 1) (FS.mono (fun _ _ h => .inr h)) (fun j hj h => h.elim id (fun h => absurd hj (by omega)))))
  clear hy2 hy3 hy4 hy5 FS hs2 hf2
  go_wp2_with fail
  exact bodyPost_ret (v := .agg #[.string t, .string ⟨#[]⟩, .string ⟨#[]⟩]) (results_cell_row rfl _ _ (w.heap.size + 1) 176 _ (0, 0) _ rfl HY5.out Tryz.underlying176 rfl (by kernel_rfl)) rfl ⟨rfl, HS5.out, HF5.out⟩

theorem blkRange {w : World} {g t : Nat} {cs : List Value} (h : Blk w g t cs.toArray) : w.rangeAt g 0 cs := by
  intro j v hj
  rw [Nat.zero_add, h.cell j, List.getElem?_toArray]
  exact hj
theorem inf46 : (Tryz.prog.info? 46).map (·.size) = some 17 := by kernel_rfl
theorem infZ46 : (Tryz.prog.info? 46).map (fun i => (i.zero, i.size, i.bytes)) = some (some (.agg #[.int .i64 0, .string ⟨#[]⟩, .nilIface, .string ⟨#[]⟩, .nilIface, .string ⟨#[]⟩, .nilIface, .int .i64 0, .string ⟨#[]⟩, .slice none 0 0, .string ⟨#[]⟩, .string ⟨#[]⟩, .nilIface, .slice none 0 0, .string ⟨#[]⟩, .string ⟨#[]⟩, .slice none 0 0]), 17, 280) := by kernel_rfl

theorem setAll_mid (g : Nat) (t : TypeId) : ∀ (vs pre old : List Value) (w : World), Blk w g t (pre ++ old).toArray → vs.length = old.length → Blk (w.setCells g pre.length vs) g t (pre ++ vs).toArray ∧ Fr (fun j => j = g) w (w.setCells g pre.length vs)
  | [], pre, old, w, h, hl => by
    have : old = [] := List.eq_nil_of_length_eq_zero (by simpa using hl.symm)
    subst this
    exact ⟨h, Fr.refl _ _⟩
  | v :: vs, pre, [], w, h, hl => by simp at hl
  | v :: vs, pre, x :: old, w, h, hl => by
    have h1 := h.set_ pre.length v
    have e1 : (pre ++ x :: old).toArray.setIfInBounds pre.length v = ((pre ++ [v]) ++ old).toArray := by
      rw [List.setIfInBounds_toArray]
      congr 1
      rw [List.set_append_right _ _ (Nat.le_refl _)]
      simp
    rw [e1] at h1
    have ih := setAll_mid g t vs (pre ++ [v]) old _ h1 (by simpa using hl)
    have e2 : (pre ++ [v]).length = pre.length + 1 := by simp
    rw [e2] at ih
    have e3 : pre ++ v :: vs = (pre ++ [v]) ++ vs := by simp
    rw [e3, World.setCells]
    exact ⟨ih.1, ((Fr.refl (fun j => j = g) w).setCell ⟨g, pre.length, none⟩ (fun _ => rfl) v).trans' ih.2⟩
/-- A whole block, stored. -/
theorem Blk.setAll {w : World} {g : Nat} {t : TypeId} {old vs : List Value} (h : Blk w g t old.toArray) (hl : vs.length = old.length) : Blk (w.setCells g 0 vs) g t vs.toArray ∧ Fr (fun j => j = g) w (w.setCells g 0 vs) :=
  setAll_mid g t vs [] old w h hl
theorem Blk.there {w : World} {g : Nat} {t : TypeId} {cs : List Value} (h : Blk w g t cs.toArray) {n : Nat} (hn : n = cs.length) : w.there g 0 n := fun j hj => by
  subst hn
  refine ⟨?_, h.frozen (0 + j)⟩
  rw [h.cell (0 + j), Nat.zero_add, List.getElem?_toArray, List.getElem?_eq_getElem hj]
  rfl

/-- An item that is groups. -/
def unionL (gv : Value) : List Value := [.int .i64 4, .string ⟨#[]⟩, .nilIface, .string ⟨#[]⟩, .nilIface, .string ⟨#[]⟩, .nilIface, .int .i64 0, .string ⟨#[]⟩, .slice none 0 0, .string ⟨#[]⟩, .string ⟨#[]⟩, .nilIface, .slice none 0 0, .string ⟨#[]⟩, .string ⟨#[]⟩, gv]
/-- A group of a group of .. of nothing. -/
def GroupAt (w : World) (B : Nat) : Nat → Value → Prop
  | 0, v => v = .slice none 0 0
  | d + 1, v => ∃ gv v', w.ownsRow B 46 17 v 1 (unionL gv) ∧ w.ownsRow B 27 1 gv 1 [v'] ∧ GroupAt w B d v'
theorem GroupAt.base {w : World} {B B' : Nat} (hB : B' ≤ B) : ∀ {d : Nat} {v : Value}, GroupAt w B d v → GroupAt w B' d v
  | 0, _, h => h
  | d + 1, _, ⟨gv, v', h1, h2, h3⟩ => ⟨gv, v', ownsRow_base h1 hB, ownsRow_base h2 hB, GroupAt.base hB h3⟩
theorem GroupAt.fr {w w' : World} {S : Nat → Prop} {B : Nat} (hf : Fr S w w') (hS : ∀ j t cs, B ≤ j → (t = 46 ∨ t = 27) → Blk w j t cs → ¬ S j) : ∀ {d : Nat} {v : Value}, GroupAt w B d v → GroupAt w' B d v
  | 0, _, h => h
  | d + 1, _, ⟨gv, v', h1, h2, h3⟩ => by
    have hk : ∀ {t size n : Nat} {u : Value} {xs : List Value}, (t = 46 ∨ t = 27) → w.ownsRow B t size u n xs → w'.ownsRow B t size u n xs := fun ht h => ownsRow_fr h hf fun j hj hSj => by
      rcases h.2 with ⟨h0, _⟩ | ⟨gg, cap, cur, hv, hbg, hh, _⟩
      · rw [h0] at hj; cases hj
      · rw [hv] at hj
        injection hj with hj
        subst hj
        exact hS gg _ cur hbg ht hh hSj
    exact ⟨gv, v', hk (.inl rfl) h1, hk (.inr rfl) h2, GroupAt.fr hf hS h3⟩
theorem GroupAt.frF {w w' : World} {B d : Nat} {v : Value} (h : GroupAt w B d v) (hf : Fr (fun _ => False) w w') : GroupAt w' B d v := GroupAt.fr hf (fun _ _ _ _ _ _ h => h) h
theorem GroupAt.frB {w w' : World} {B d x t : Nat} {cs : Array Value} {v : Value} (h : GroupAt w B d v) (hx : Blk w x t cs) (h1 : t ≠ 46) (h2 : t ≠ 27) (hf : Fr (fun j => j = x) w w') : GroupAt w' B d v :=
  GroupAt.fr hf (fun j t' cs' _ ht hb e => by
    subst e
    rcases ht with rfl | rfl
    · exact Blk.ne_ hb hx (fun e => h1 e.symm) rfl
    · exact Blk.ne_ hb hx (fun e => h2 e.symm) rfl) h
theorem GroupAt.slice {w : World} {B d : Nat} {v : Value} (h : GroupAt w B d v) : ∃ A n c, v = .slice A n c := by
  cases d with
  | zero => exact ⟨none, 0, 0, h⟩
  | succ d =>
    obtain ⟨gv, v', h1, _⟩ := h
    obtain ⟨A, c, hv⟩ := row_shape h1
    exact ⟨A, _, c, hv⟩

/-- d groups stand in one another, from a place to a place. -/
def Nest (rs : List Int) : Nat → Nat → Nat → Prop
  | 0, p, q => peekOf rs p = 123 ∧ peekOf rs (p + 1) = 125 ∧ q = p + 2
  | d + 1, p, q => peekOf rs p = 123 ∧ ∃ q', Nest rs d (p + 1) q' ∧ peekOf rs q' = 125 ∧ q = q' + 1
theorem Nest.head {rs : List Int} {d p q : Nat} (h : Nest rs d p q) : peekOf rs p = 123 := by
  cases d with
  | zero => exact h.1
  | succ d => exact h.1
theorem skip_sign {rs : List Int} {p : Nat} (h : clsOf (peekOf rs p) ≠ 0) : skip rs [0] p = p := by
  refine skip_stop fun hc => h ?_
  unfold peekOf
  rw [if_pos hc.1]
  have := hc.2
  simpa using this
theorem skip_open {rs : List Int} {p : Nat} (h : peekOf rs p = 123) : skip rs [0] p = p := skip_sign (by rw [h]; decide)
theorem skip_shut {rs : List Int} {p : Nat} (h : peekOf rs p = 125) : skip rs [0] p = p := skip_sign (by rw [h]; decide)
/-- A word does not begin with that sign. -/
theorem word_no {rs : List Int} {p : Nat} {T : ByteArray} {x : Int} (hs : skip rs [0] p = p) (hp : peekOf rs p = x) (hT : 0 < T.size) (hx : ¬ (txt T).getD 0 0 = x) : wordAt rs p T = false ∧ wordTo rs p T = p := by
  have h1 : wordAt rs p T = false := by
    unfold wordAt
    rw [hs, isAt_false (i := 0) (by rw [txt_len]; exact hT) (by rw [Nat.add_zero, hp]; exact fun e => hx e.symm), Bool.false_and]
  exact ⟨h1, one_stay h1 hs⟩
theorem mark_no {rs : List Int} {p : Nat} {x : UInt8} (hs : skip rs [0] p = p) (hx : ¬ peekOf rs p = (x.toNat : Int)) : markAt rs p ⟨#[x]⟩ = false ∧ markTo rs p ⟨#[x]⟩ = p := by
  have h1 : markAt rs p ⟨#[x]⟩ = false := by
    unfold markAt
    rw [hs, isAt_one, decide_eq_false hx]
  refine ⟨h1, ?_⟩
  unfold markTo
  rw [h1, hs]
  simp
theorem mark_yes {rs : List Int} {p : Nat} {x : UInt8} (hs : skip rs [0] p = p) (hx : peekOf rs p = (x.toNat : Int)) : markAt rs p ⟨#[x]⟩ = true ∧ markTo rs p ⟨#[x]⟩ = p + 1 := by
  have h1 : markAt rs p ⟨#[x]⟩ = true := by
    unfold markAt
    rw [hs, isAt_one, decide_eq_true hx]
  refine ⟨h1, ?_⟩
  unfold markTo
  rw [h1, hs]
  simp
  rfl

end Go.Proofs.YtebddgdkndmpjaaGreatDoor
