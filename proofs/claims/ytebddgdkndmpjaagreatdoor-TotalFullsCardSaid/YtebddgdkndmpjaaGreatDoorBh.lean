/- An IRI that stands in angle brackets, read: walked. -/
import Derived.Test.YtebddgdkndmpjaaGreatDoorBg
import Derived.Test.YtebddgdkndmpjaaGreatDoorBf
import Derived.Deep.CutBlock
import Derived.Deep.RegionLawGrows
import Derived.Deep.Cut
import Derived.Deep.CutRange
import Derived.WalkKit
import Derived.WalkLawsBesides
import Derived.WalkSpells
import Derived.Deep.QuietTactic
import Derived.BigRegion
import Derived.BigQuiet
import Derived.Lib.Hide
import Derived.Outline
import Derived.Deep.AppendLies
import Derived.Deep.RegionLaw
import Derived.Deep.RegionWith
import Derived.Deep.RegionHeld3
import Derived.Deep.LoopGhost
import Derived.Deep.DeepFit
import Derived.Laws.ResultCell
import Derived.Laws.RangeAny
import Derived.Deep.MidRow
import Derived.StillTailTactics
import Derived.OpenShut
namespace Go.Proofs.YtebddgdkndmpjaaGreatDoor
set_option linter.unusedVariables false
open Go.RowKit Go

theorem ascii_of {T : ByteArray} (h : T.data.toList.all (fun c => decide (c.toNat < 128)) = true) : Ascii T := by
  intro i hi
  have := List.all_eq_true.1 h (T[i]'hi) (by
    show T.data[i] ∈ T.data.toList
    exact Array.getElem_mem_toList (by simpa using hi))
  simpa using this
theorem isAt_one (rs : List Int) (p : Nat) (x : UInt8) : isAt rs p (txt ⟨#[x]⟩) = decide (peekOf rs p = (x.toNat : Int)) := by
  by_cases h : peekOf rs p = (x.toNat : Int)
  · rw [decide_eq_true h]
    refine isAt_true fun i hi => ?_
    have hi0 : i = 0 := by
      rw [txt_len] at hi
      have : (⟨#[x]⟩ : ByteArray).size = 1 := rfl
      omega
    subst hi0
    exact h
  · rw [decide_eq_false h]
    exact isAt_false (i := 0) (by rw [txt_len]; exact Nat.one_pos) h
theorem Bu.fr {w w' : World} {B b x : Nat} {l : List UInt8} {cs : Array Value} (h : Bu w B b l) (hx : Blk w x 239 cs) (hf : Fr (fun j => j = x) w w') : Bu w' B b l := by
  obtain ⟨p, v, hb, hp, hr, hB⟩ := h
  exact ⟨p, v, hb.fr hf (fun e => Blk.ne_ hb hx (by decide) e), hp, ownsRow_fr hr hf (fun j hj e => own_blk_ne hr hx (by decide) (by rw [hj, e])), hB⟩
theorem Bu.frF {w w' : World} {B b : Nat} {l : List UInt8} (h : Bu w B b l) (hf : Fr (fun _ => False) w w') : Bu w' B b l := by
  obtain ⟨p, v, hb, hp, hr, hB⟩ := h
  exact ⟨p, v, hb.fr hf (fun e => e), hp, ownsRow_fr hr hf (fun j hj e => e), hB⟩
theorem Sc.old {w w1 w' : World} {b c p q B : Nat} {A : Option Addr} {rs : List Int} (h : Sc w1 b A c rs p) (h0 : Sc w b A c rs q) (hB : w.heap.size ≤ B) (hf : Fr (fun j => B ≤ j) w1 w') : Sc w' b A c rs p :=
  h.fr hf (fun e => by have := h0.blk.lt; omega) (fun j hj e => by have := (h0.row.lt j hj).2; omega)

def IriPost (w : World) (b : Nat) (A : Option Addr) (c : Nat) (rs : List Int) (q : Nat) (v : Value) (e : Ending) (w' : World) : Prop := e = .returned v ∧ Sc w' b A c rs q ∧ Fr (fun j => j = b) w w'

/-- Plain signs follow, then the closing bracket. -/
def Body (rs : List Int) (p : Nat) (l : List UInt8) : Prop :=
  peekOf rs p = 60 ∧ (∀ i, i < l.length → peekOf rs (p + 1 + i) = ((l.getD i 0).toNat : Int) ∧ (l.getD i 0).toNat < 128 ∧ (l.getD i 0).toNat ≠ 10 ∧ (l.getD i 0).toNat ≠ 62 ∧ (l.getD i 0).toNat ≠ 92) ∧ peekOf rs (p + 1 + l.length) = 62

set_option maxRecDepth 100000 in
set_option maxHeartbeats 4000000 in
theorem ntiri_sc (l : List UInt8) (b c p : Nat) (A : Option Addr) (rs : List Int) (w : World) (hl : l ≠ []) (hl2 : l.length ≤ 1000) (hbd : Body rs p l) (h : Sc w b A c rs p) :
    Calls Tryz.prog 292 #[.pointer (some ⟨b, 0, none⟩)] w (ScPost w b A c rs (p + l.length + 2) (.tuple #[.string ⟨l.toArray⟩, .bool true])) := by
  obtain ⟨hp0, hbody, hend⟩ := hbd
  have HI := Lib.hid (fun T q w1 hT hs h1 => is_sc T b c q A rs w1 hT hs h1)
  have HE := Lib.hid (fun q w1 h1 => end_sc b c q A rs w1 h1)
  have HK := Lib.hid (fun q w1 h1 => peek_sc b c q A rs w1 h1)
  have HN := Lib.hid (fun q w1 h1 => next_sc b c q A rs w1 h1)
  have I0 := Lib.hid (is_sc ⟨#[60]⟩ b c p A rs w (ascii_of (by decide)) (by decide) h)
  rw [isAt_one, hp0] at I0
  unfold IsPost at I0
  simp only [show decide ((60 : Int) = ((60 : UInt8).toNat : Int)) = true from rfl, if_true] at I0
  have HS := Lib.hid h
  have HBO := Lib.hid hbody
  have HEN := Lib.hid hend
  have hbl := h.blk.lt
  clear h hbody hend hp0
  go_enter Tryz.func292, Tryz.ntmps292
  go_wp2_with fail
  refine I0.out.mono ?_
  rintro e w1 ⟨rfl, hs1, hf1⟩
  rw [show p + (⟨#[60]⟩ : ByteArray).size = p + 1 from rfl] at hs1
  have HS1 := Lib.hid hs1
  have HF1 := Lib.hid hf1
  have hsz1 := hf1.size
  have BU0 := Lib.hid (show Bu (w1.alloc (.cells #[.pointer none, .slice none 0 0] 263)) w1.heap.size w1.heap.size [] from ⟨_, _, Blk.new _ _ _, .inl rfl, World.ownsRow_nil _ _ _ _, Nat.le_refl _⟩)
  clear hs1 hf1
  go_wp2_with fail
  go_loopg [14] (l.length) (fun g nv wr => ∃ i : Nat, l.length ≤ i + g ∧ i ≤ l.length ∧ Sc wr b A c rs (p + 1 + i) ∧ Bu wr w1.heap.size w1.heap.size (l.take i) ∧ Fr (fun j => j = b ∨ w1.heap.size ≤ j) w wr ∧ w1.heap.size < wr.heap.size)
  case atStart => exact ⟨0, by omega, Nat.zero_le _, HS1.out.frF ((Fr.refl _ _).alloc _), BU0.out, (HF1.out.mono (fun _ _ e => .inl e)).alloc _, by simp⟩
  case round =>
    obtain ⟨i, hg, hi, hs, hbu, hfr, hszw⟩ := hrel
    have HSW := Lib.hid hs
    have HBU := Lib.hid hbu
    have HFR := Lib.hid hfr
    have HEE := Lib.hid (HE.out (p + 1 + i) wr hs)
    have HKK := Lib.hid (fun w1 h1 => HK.out (p + 1 + i) w1 h1)
    clear hs hbu hfr
    by_cases hil : i < l.length
    · obtain ⟨hpk, hc1, hc2, hc3, hc4⟩ := HBO.out i hil
      have hplt := peek_lt (rs := rs) (p := p + 1 + i) (by rw [hpk]; omega)
      rw [decide_eq_false (by omega)] at HEE
      rw [hpk] at HKK
      have I1 := Lib.hid (fun w1 h1 => HI.out ⟨#[62]⟩ (p + 1 + i) w1 (ascii_of (by decide)) (by decide) h1)
      have I2 := Lib.hid (fun w1 h1 => HI.out ⟨#[92]⟩ (p + 1 + i) w1 (ascii_of (by decide)) (by decide) h1)
      rw [isAt_one, hpk, decide_eq_false (by show ¬ ((l.getD i 0).toNat : Int) = 62; omega)] at I1
      rw [isAt_one, hpk, decide_eq_false (by show ¬ ((l.getD i 0).toNat : Int) = 92; omega)] at I2
      have HNN := Lib.hid (fun w1 h1 => HN.out (p + 1 + i) w1 h1)
      unfold nextAt at HNN
      rw [if_pos hplt, hpk] at HNN
      have HW := Lib.hid (fun w2 hB hu => wrune_any w1.heap.size w1.heap.size (l.take i) (l.getD i 0) w2 hc1 (by rw [List.length_take]; omega) hB hu)
      have HST := Lib.hid (show l.take i ++ [l.getD i 0] = l.take (i + 1) by rw [List.take_add_one, List.getD_eq_getElem?_getD, List.getElem?_eq_getElem hil]; rfl)
      rw [HST.out] at HW
      unfold IsPost at I1 I2
      simp only [Bool.false_eq_true, if_false] at I1 I2
      generalize (l.getD i 0).toNat = r at *
      have hr10 : ((r : Int) == 10) = false := by simp; omega
      go_wp2_with fail
      refine HEE.out.mono ?_
      rintro e w2 ⟨rfl, hf2⟩
      have HS2 := Lib.hid (HSW.out.frF hf2)
      have HB2 := Lib.hid (HBU.out.frF hf2)
      have HF2 := Lib.hid (HFR.out.trans hf2 (fun _ _ h => h.elim))
      have hz2 := hf2.size
      clear hf2
      go_wp2_with fail
      refine (HKK.out _ HS2.out).mono ?_
      rintro e w3 ⟨rfl, hf3⟩
      have HS3 := Lib.hid (HS2.out.frF hf3)
      have HB3 := Lib.hid (HB2.out.frF hf3)
      have HF3 := Lib.hid (HF2.out.trans hf3 (fun _ _ h => h.elim))
      have hz3 := hf3.size
      clear hf3
      go_wp2_with fail
      refine (I1.out _ HS3.out).mono ?_
      rintro e w4 ⟨rfl, hs4, hf4⟩
      have HS4 := Lib.hid hs4
      have HB4 := Lib.hid (HB3.out.fr HS3.out.blk hf4)
      have HF4 := Lib.hid (HF3.out.trans hf4 (fun _ _ h => .inl h))
      have hz4 := hf4.size
      clear hf4 hs4
      go_wp2_with fail
      refine (I2.out _ HS4.out).mono ?_
      rintro e w5 ⟨rfl, hs5, hf5⟩
      have HS5 := Lib.hid hs5
      have HB5 := Lib.hid (HB4.out.fr HS4.out.blk hf5)
      have HF5 := Lib.hid (HF4.out.trans hf5 (fun _ _ h => .inl h))
      have hz5 := hf5.size
      clear hf5 hs5
      go_wp2_with fail
      refine (HNN.out _ HS5.out).mono ?_
      rintro e w6 ⟨rfl, hs6, hf6⟩
      have HS6 := Lib.hid hs6
      have HB6 := Lib.hid (HB5.out.fr HS5.out.blk hf6)
      have HF6 := Lib.hid (HF5.out.trans hf6 (fun _ _ h => .inl h))
      have hz6 := hf6.size
      clear hf6 hs6
      go_wp2_with fail
      refine (HW.out _ (by omega) HB6.out).mono ?_
      rintro e w7 ⟨⟨kk, rfl⟩, hb7, hf7⟩
      have HS7 := Lib.hid (HS6.out.old HS.out hsz1 hf7)
      have HB7 := Lib.hid hb7
      have HF7 := Lib.hid (HF6.out.trans hf7 (fun _ _ h => .inr h))
      have hz7 := hf7.size
      clear hf7 hb7
      go_wp2_with fail
      go_roundg (l.length - (i + 1))
      case measure => omega
      case rel => exact ⟨i + 1, by omega, by omega, HS7.out, HB7.out, HF7.out, by omega⟩
    · have hie : i = l.length := by omega
      subst hie
      have hpk := HEN.out
      have hplt := peek_lt (rs := rs) (p := p + 1 + l.length) (by rw [hpk]; omega)
      rw [decide_eq_false (by omega)] at HEE
      rw [hpk] at HKK
      have I1 := Lib.hid (fun w1 h1 => HI.out ⟨#[62]⟩ (p + 1 + l.length) w1 (ascii_of (by decide)) (by decide) h1)
      rw [isAt_one, hpk] at I1
      unfold IsPost at I1
      simp only [show decide ((62 : Int) = ((62 : UInt8).toNat : Int)) = true from rfl, if_true] at I1
      have HST := Lib.hid (fun w2 hu => bstring_any w1.heap.size w1.heap.size l w2 hl hu)
      rw [List.take_length] at HBU
      go_wp2_with fail
      refine HEE.out.mono ?_
      rintro e w2 ⟨rfl, hf2⟩
      have HS2 := Lib.hid (HSW.out.frF hf2)
      have HB2 := Lib.hid (HBU.out.frF hf2)
      have HF2 := Lib.hid (HFR.out.trans hf2 (fun _ _ h => h.elim))
      clear hf2
      go_wp2_with fail
      refine (HKK.out _ HS2.out).mono ?_
      rintro e w3 ⟨rfl, hf3⟩
      have HS3 := Lib.hid (HS2.out.frF hf3)
      have HB3 := Lib.hid (HB2.out.frF hf3)
      have HF3 := Lib.hid (HF2.out.trans hf3 (fun _ _ h => h.elim))
      clear hf3
      go_wp2_with fail
      refine (I1.out _ HS3.out).mono ?_
      rintro e w4 ⟨rfl, hs4, hf4⟩
      have HS4 := Lib.hid hs4
      have HB4 := Lib.hid (HB3.out.fr HS3.out.blk hf4)
      have HF4 := Lib.hid (HF3.out.trans hf4 (fun _ _ h => .inl h))
      clear hf4 hs4
      go_wp2_with fail
      refine (HST.out _ HB4.out).mono ?_
      rintro e w5 ⟨rfl, hf5⟩
      have HS5 := Lib.hid (HS4.out.old HS.out hsz1 hf5)
      have HF5 := Lib.hid (HF4.out.trans hf5 (fun _ _ h => .inr h))
      clear hf5
      go_wp2_with fail
      go_ret2
      refine ⟨rfl, ?_, HF5.out.mono (fun j hj h => h.elim id (fun h => absurd h (by omega)))⟩
      have hs := HS5.out
      rw [show p + 1 + l.length + (⟨#[62]⟩ : ByteArray).size = p + l.length + 2 by show p + 1 + l.length + 1 = _; omega] at hs
      exact hs

end Go.Proofs.YtebddgdkndmpjaaGreatDoor
