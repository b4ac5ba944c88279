/- A word, a mark, what must follow: walked. -/
import Derived.Test.YtebddgdkndmpjaaGreatDoorBc
import Derived.Deep.CutBlock
import Derived.Deep.RegionLawGrows
import Derived.Deep.Cut
import Derived.Deep.CutRange
import Derived.WalkKit
import Derived.WalkLawsBesides
import Derived.WalkSpells
import Derived.Deep.QuietTactic
import Derived.BigRegion
import Derived.BigQuiet
import Derived.Lib.Hide
import Derived.Outline
import Derived.Deep.AppendLies
import Derived.Deep.RegionLaw
import Derived.Deep.RegionWith
import Derived.Deep.RegionHeld3
import Derived.Deep.LoopGhost
import Derived.Deep.DeepFit
import Derived.Laws.ResultCell
import Derived.Laws.RangeAny
import Derived.Deep.MidRow
import Derived.StillTailTactics
import Derived.OpenShut
namespace Go.Proofs.YtebddgdkndmpjaaGreatDoor
set_option linter.unusedVariables false
open Go.RowKit Go

/-- What is thrown: a place, an error. -/
def failV (place code : Int) : Value := .iface 170 (.agg #[.int .i64 place, .int .i64 code])
def Thrown (place code : Int) (e : Ending) : Prop := e = .panicked [{ v := failV place code, recovered := false }]

set_option maxRecDepth 100000 in
set_option maxHeartbeats 4000000 in
theorem fail_sc (p : Value) (place code : Int) (w : World) : Calls Tryz.prog 90 #[.agg #[p], .int .i64 place, .int .i64 code] w fun e w' => Thrown place code e ∧ Fr (fun _ => False) w w' := by
  go_enter Tryz.func90, Tryz.ntmps90
  go_wp2_with fail
  exact ⟨rfl, rfl, (Fr.refl _ _).alloc _⟩

/-- Does a word follow, behind blanks? -/
def wordAt (rs : List Int) (p : Nat) (T : ByteArray) : Bool := isAt rs (skip rs [0] p) (txt T) && !letterOf (peekOf rs (skip rs [0] p + T.size))
def wordTo (rs : List Int) (p : Nat) (T : ByteArray) : Nat := if wordAt rs p T = true then skip rs [0] p + T.size else skip rs [0] p
/-- Does a mark? -/
def markAt (rs : List Int) (p : Nat) (T : ByteArray) : Bool := isAt rs (skip rs [0] p) (txt T)
def markTo (rs : List Int) (p : Nat) (T : ByteArray) : Nat := if markAt rs p T = true then skip rs [0] p + T.size else skip rs [0] p

theorem box_keep {w0 w w' : World} {b : Nat} {v : Value} (h : Blk w w0.heap.size 108 #[v]) (hb : b < w0.heap.size) (hf : Fr (fun j => j = b) w w') : Blk w' w0.heap.size 108 #[v] := h.fr hf (fun e => by omega)
theorem peek_ok {w : World} {b c p : Nat} {A : Option Addr} {rs : List Int} (h : Sc w b A c rs p) (q : Nat) : peekOf rs q = -1 ∨ Lib.validRune (peekOf rs q) = true := by
  unfold peekOf
  by_cases hq : q < rs.length
  · rw [if_pos hq]
    exact .inr (h.valid _ (by rw [List.getD_eq_getElem?_getD, List.getElem?_eq_getElem hq]; exact List.getElem_mem hq)).1
  · rw [if_neg hq]
    exact .inl rfl

set_option maxRecDepth 100000 in
set_option maxHeartbeats 4000000 in
theorem mark_sc (T : ByteArray) (b c p : Nat) (A : Option Addr) (rs : List Int) (w : World) (hT : Ascii T) (hsz : T.size ≤ 100) (h : Sc w b A c rs p) :
    Calls Tryz.prog 150 #[.agg #[.pointer (some ⟨b, 0, none⟩)], .string T] w (ScPost w b A c rs (markTo rs p T) (.bool (markAt rs p T))) := by
  have hf : Fr (fun _ => False) w (w.alloc (.cells #[.pointer (some ⟨b, 0, none⟩)] 108)) := (Fr.refl _ _).alloc _
  have HB := Lib.hid (blanks_sc b c p A rs _ (h.frF hf))
  have HI := Lib.hid (fun q w1 h1 => is_sc T b c q A rs w1 hT hsz h1)
  have HX := Lib.hid (Blk.new w 108 #[.pointer (some ⟨b, 0, none⟩)])
  have HF := Lib.hid hf
  have hbl := h.blk.lt
  obtain ⟨r, hr⟩ : ∃ r, r = markAt rs p T := ⟨_, rfl⟩
  obtain ⟨q', hq'⟩ : ∃ q', q' = markTo rs p T := ⟨_, rfl⟩
  rw [← hr, ← hq']
  unfold markTo at hq'
  rw [← hr] at hq'
  unfold markAt at hr
  have HR := Lib.hid hr
  have HQ := Lib.hid hq'
  clear h hf hr hq'
  go_enter Tryz.func150, Tryz.ntmps150
  go_wp2_with fail
  refine HB.out.mono ?_
  rintro e w1 ⟨⟨k, rfl⟩, hs1, hf1⟩
  have hx1 := box_keep HX.out hbl hf1
  have x1 : w1.cell? ⟨w.heap.size, 0, none⟩ = some (.pointer (some ⟨b, 0, none⟩)) := hx1.cell 0
  have HII := Lib.hid (HI.out _ w1 hs1)
  have HF1 := Lib.hid ((HF.out.mono (T := fun j => j = b) (fun _ _ h => h.elim)).trans' hf1)
  generalize skip rs [0] p = q at *
  rw [← HR.out] at HII
  obtain ⟨q2, hq2⟩ : ∃ q2, q2 = if r = true then q + T.size else q := ⟨_, rfl⟩
  have HQ2 := Lib.hid (show q' = q2 by rw [HQ.out, hq2])
  unfold IsPost at HII
  rw [← hq2] at HII
  clear hx1 hs1 hf1 hq2
  go_wp2_with fail
  refine HII.out.mono ?_
  rintro e w2 ⟨rfl, hs2, hf2⟩
  have hqe := HQ2.out
  subst hqe
  go_wp2_with fail
  go_ret
  exact ⟨rfl, hs2, HF1.out.trans' hf2⟩

set_option maxRecDepth 100000 in
set_option maxHeartbeats 4000000 in
theorem word_sc (T : ByteArray) (b c p : Nat) (A : Option Addr) (rs : List Int) (w : World) (hT : Ascii T) (hsz : T.size ≤ 100) (h : Sc w b A c rs p) :
    Calls Tryz.prog 95 #[.agg #[.pointer (some ⟨b, 0, none⟩)], .string T] w (ScPost w b A c rs (wordTo rs p T) (.bool (wordAt rs p T))) := by
  have hf : Fr (fun _ => False) w (w.alloc (.cells #[.pointer (some ⟨b, 0, none⟩)] 108)) := (Fr.refl _ _).alloc _
  have HB := Lib.hid (blanks_sc b c p A rs _ (h.frF hf))
  have HP := Lib.hid (fun q w1 h1 => place_sc b c q A rs w1 h1)
  have HI := Lib.hid (fun q w1 h1 => is_sc T b c q A rs w1 hT hsz h1)
  have HK := Lib.hid (fun q w1 h1 => peek_sc b c q A rs w1 h1)
  have HL := Lib.hid (fun q w1 => letter_any (peekOf rs q) w1 (peek_ok h q))
  have HBA := Lib.hid (fun q q' w1 h1 => back_sc b c q q' A rs w1 h1)
  have HX := Lib.hid (Blk.new w 108 #[.pointer (some ⟨b, 0, none⟩)])
  have HF := Lib.hid hf
  have hbl := h.blk.lt
  have hle := (skip_le rs [0] rs.length p (by omega) h.le).2
  obtain ⟨o, ho⟩ : ∃ o, o = wordAt rs p T := ⟨_, rfl⟩
  obtain ⟨q', hq'⟩ : ∃ q', q' = wordTo rs p T := ⟨_, rfl⟩
  rw [← ho, ← hq']
  unfold wordTo at hq'
  rw [← ho] at hq'
  unfold wordAt at ho
  have HO := Lib.hid ho
  have HQ := Lib.hid hq'
  clear h hf ho hq'
  go_enter Tryz.func95, Tryz.ntmps95
  go_wp2_with fail
  refine HB.out.mono ?_
  rintro e w1 ⟨⟨k, rfl⟩, hs1, hf1⟩
  have hx1 := box_keep HX.out hbl hf1
  have x1 : w1.cell? ⟨w.heap.size, 0, none⟩ = some (.pointer (some ⟨b, 0, none⟩)) := hx1.cell 0
  have HPP := Lib.hid (HP.out _ w1 hs1)
  have HII := Lib.hid (HI.out _ w1 hs1)
  have HX1 := Lib.hid hx1
  have HF1 := Lib.hid ((HF.out.mono (T := fun j => j = b) (fun _ _ h => h.elim)).trans' hf1)
  generalize skip rs [0] p = q at *
  generalize hrr : isAt rs q (txt T) = r at *
  obtain ⟨q2, hq2⟩ : ∃ q2, q2 = if r = true then q + T.size else q := ⟨_, rfl⟩
  unfold IsPost at HII
  rw [← hq2] at HII
  have HQ2 := Lib.hid hq2
  clear hx1 hs1 hf1 hrr hq2
  go_wp2_with fail
  refine HPP.out.mono ?_
  rintro e w1' ⟨rfl, rfl⟩
  go_wp2_with fail
  refine HII.out.mono ?_
  rintro e w2 ⟨rfl, hs2, hf2⟩
  have hx2 := box_keep HX1.out hbl hf2
  have x2 : w2.cell? ⟨w.heap.size, 0, none⟩ = some (.pointer (some ⟨b, 0, none⟩)) := hx2.cell 0
  have HF2 := Lib.hid (HF1.out.trans' hf2)
  have HX2 := Lib.hid hx2
  have HS2 := Lib.hid hs2
  clear x1 hx2 hf2 hs2
  cases r with
  | false =>
    have hq2 : q2 = q := HQ2.out
    subst hq2
    have ho := HO.out
    rw [Bool.false_and] at ho
    subst ho
    have hqe := HQ.out
    rw [if_neg (by decide)] at hqe
    subst hqe
    have HBB := Lib.hid (HBA.out q' q' w2 HS2.out hle)
    go_wp2_with fail
    refine HBB.out.mono ?_
    rintro e w3 ⟨rfl, hs3, hf3⟩
    go_wp2_with fail
    go_ret
    exact ⟨rfl, hs3, HF2.out.trans' hf3⟩
  | true =>
    have hq2 : q2 = q + T.size := HQ2.out
    subst hq2
    have ho := HO.out
    rw [Bool.true_and] at ho
    have HKK := Lib.hid (HK.out (q + T.size) w2 HS2.out)
    have HLL := Lib.hid (fun w => HL.out (q + T.size) w)
    generalize peekOf rs (q + T.size) = pk at *
    generalize letterOf pk = lt at *
    have HO2 := Lib.hid ho
    clear ho
    go_wp2_with fail
    refine HKK.out.mono ?_
    rintro e w3 ⟨rfl, hf3⟩
    have hx3 := HX2.out.fr hf3 (fun h => h)
    have x3 : w3.cell? ⟨w.heap.size, 0, none⟩ = some (.pointer (some ⟨b, 0, none⟩)) := hx3.cell 0
    have HF3 := Lib.hid (HF2.out.trans hf3 (fun _ _ h => h.elim))
    have HS3 := Lib.hid (HS2.out.frF hf3)
    clear x2 hx3 hf3
    go_wp2_with fail
    refine (HLL.out _).mono ?_
    rintro e w3' ⟨rfl, rfl⟩
    cases lt with
    | false =>
      have ho : o = true := HO2.out
      subst ho
      have hqe := HQ.out
      rw [if_pos rfl] at hqe
      subst hqe
      go_wp2_with fail
      go_ret
      exact ⟨rfl, HS3.out, HF3.out⟩
    | true =>
      have ho : o = false := HO2.out
      subst ho
      have hqe := HQ.out
      rw [if_neg (by decide)] at hqe
      subst hqe
      have HBB := Lib.hid (HBA.out (q' + T.size) q' _ HS3.out hle)
      go_wp2_with fail
      refine HBB.out.mono ?_
      rintro e w4 ⟨rfl, hs4, hf4⟩
      go_wp2_with fail
      go_ret
      exact ⟨rfl, hs4, HF3.out.trans' hf4⟩

end Go.Proofs.YtebddgdkndmpjaaGreatDoor
