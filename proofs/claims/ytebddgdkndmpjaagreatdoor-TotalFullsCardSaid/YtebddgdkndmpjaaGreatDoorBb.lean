/- Does a text follow: walked. -/
import Derived.Test.YtebddgdkndmpjaaGreatDoorBa
import Derived.Test.YtebddgdkndmpjaaGreatDoorGb
import Derived.Deep.CutBlock
import Derived.Deep.RegionLawGrows
import Derived.Deep.Cut
import Derived.Deep.CutRange
import Derived.WalkKit
import Derived.WalkLawsBesides
import Derived.WalkSpells
import Derived.Deep.QuietTactic
import Derived.BigRegion
import Derived.BigQuiet
import Derived.Lib.Hide
import Derived.Outline
import Derived.Deep.AppendLies
import Derived.Deep.RegionLaw
import Derived.Deep.RegionWith
import Derived.Deep.RegionHeld3
import Derived.Deep.LoopGhost
import Derived.Deep.DeepFit
import Derived.Laws.ResultCell
import Derived.Laws.RangeAny
import Derived.Deep.MidRow
import Derived.StillTailTactics
import Derived.OpenShut
namespace Go.Proofs.YtebddgdkndmpjaaGreatDoor
set_option linter.unusedVariables false
open Go.RowKit Go

/-- A text's signs. -/
def txt (T : ByteArray) : List Int := T.data.toList.map fun c => (c.toNat : Int)
/-- Do signs follow at a place? -/
def isAt (rs : List Int) (p : Nat) (ts : List Int) : Bool := (List.range ts.length).all fun i => peekOf rs (p + i) == ts.getD i 0
theorem isAt_true {rs ts : List Int} {p : Nat} (h : ∀ i, i < ts.length → peekOf rs (p + i) = ts.getD i 0) : isAt rs p ts = true := by
  unfold isAt
  rw [List.all_eq_true]
  intro i hi
  rw [List.mem_range] at hi
  simpa using h i hi
theorem isAt_false {rs ts : List Int} {p i : Nat} (hi : i < ts.length) (h : ¬ peekOf rs (p + i) = ts.getD i 0) : isAt rs p ts = false := by
  unfold isAt
  rw [List.all_eq_false]
  exact ⟨i, List.mem_range.2 hi, by simpa using h⟩
theorem txt_len (T : ByteArray) : (txt T).length = T.size := by unfold txt; simp
theorem txt_get (T : ByteArray) (i : Nat) (h : i < T.size) : (txt T).getD i 0 = ((T[i]'h).toNat : Int) := by
  unfold txt
  rw [List.getD_eq_getElem?_getD, List.getElem?_map, List.getElem?_eq_getElem (by simpa using h)]
  simp
  rfl
def Ascii (T : ByteArray) : Prop := ∀ i (h : i < T.size), (T[i]'h).toNat < 128
theorem peek_lt {rs : List Int} {p : Nat} (h : 0 ≤ peekOf rs p) : p < rs.length := by
  unfold peekOf at h
  by_cases hp : p < rs.length
  · exact hp
  · rw [if_neg hp] at h
    omega

def IsPost (w : World) (b : Nat) (A : Option Addr) (c : Nat) (rs : List Int) (p n : Nat) (r : Bool) (e : Ending) (w' : World) : Prop := e = .returned (.bool r) ∧ Sc w' b A c rs (if r = true then p + n else p) ∧ Fr (fun j => j = b) w w'

set_option maxRecDepth 100000 in
set_option maxHeartbeats 4000000 in
theorem is_sc (T : ByteArray) (b c p : Nat) (A : Option Addr) (rs : List Int) (w : World) (hT : Ascii T) (hsz : T.size ≤ 100) (h : Sc w b A c rs p) :
    Calls Tryz.prog 146 #[.pointer (some ⟨b, 0, none⟩), .string T] w (IsPost w b A c rs p T.size (isAt rs p (txt T))) := by
  have HN := Lib.hid (fun q w1 h1 => next_sc b c q A rs w1 h1)
  have c1 : w.cell? ⟨b, 1, none⟩ = some (.int .i64 (p : Int)) := h.blk.cell 1
  have hbl := h.blk.lt
  have HS := Lib.hid h
  have hsm := h.small
  have HP := Lib.hid h.le
  clear h
  obtain ⟨bb, hbb⟩ : ∃ bb, bb = isAt rs p (txt T) := ⟨_, rfl⟩
  rw [← hbb]
  have HBB := Lib.hid hbb
  clear hbb
  go_enter Tryz.func146, Tryz.ntmps146
  go_wp2_with fail
  go_loopg [7] (T.size) (fun g nv wr => ∃ q : Nat, T.size ≤ q + g ∧ q ≤ T.size ∧ p + q ≤ rs.length ∧ ItAt wr w.heap.size T q ∧ Sc wr b A c rs (p + q) ∧ Fr (fun j => j = b ∨ w.heap.size ≤ j) w wr ∧ ∀ i, i < q → peekOf rs (p + i) = (txt T).getD i 0)
  case atStart => exact ⟨0, by omega, Nat.zero_le _, by have := HP.out; omega, ItAt.new w T 0, HS.out.frF ((Fr.refl _ _).alloc _), (Fr.refl _ _).alloc _, fun i hi => absurd hi (by omega)⟩
  case round =>
    obtain ⟨q, hg, hq, hle, hit, hs, hf, hm⟩ := hrel
    by_cases hp : q < T.size
    · have hnx := run_next_it hit hp
      rw [decode_ascii T q hp (hT q hp)] at hnx
      have hit2 := hit.set (q + 1)
      have FI := hit.frS (q + 1)
      have hs2 := hs.fr FI (fun e => by have := hs.blk.lt; have := hf.size; omega) (fun j hj e => by
        subst e
        rcases hs.row.2 with ⟨h0, _⟩ | ⟨gg, cap, cur, hv, _, hh, _⟩
        · rw [h0] at hj; cases hj
        · rw [hv] at hj
          injection hj with hj
          subst hj
          rw [show wr.heap[w.heap.size]? = some (.stringIter T q) from hit] at hh
          cases hh)
      have hf2 : Fr (fun j => j = b ∨ w.heap.size ≤ j) w (World.itSet wr w.heap.size T (q + 1)) := hf.trans FI (fun i hi e => .inr (by omega))
      have HIT := Lib.hid hit2
      have HS2 := Lib.hid hs2
      have HF := Lib.hid hf2
      generalize World.itSet wr w.heap.size T (q + 1) = w2 at *
      have HM := Lib.hid hm
      have HT2 := Lib.hid (txt_get T q hp)
      have hr0 : (0 : Int) ≤ ((T[q]'hp).toNat : Int) := by omega
      have HNX := Lib.hid (HN.out (p + q) w2 hs2)
      generalize hrr : ((T[q]'hp).toNat) = r at *
      clear hit hf hit2 hf2 hs hs2 FI hm hrr
      by_cases hpk : peekOf rs (p + q) = (r : Int)
      · have hlt := peek_lt (rs := rs) (p := p + q) (by rw [hpk]; exact hr0)
        unfold nextAt at HNX
        rw [if_pos hlt, hpk] at HNX
        go_wp2_with fail
        refine HNX.out.mono ?_
        rintro e w3 ⟨rfl, hs3, hf3⟩
        have HS3 := Lib.hid hs3
        have hi3 := HIT.out.fr hf3 (fun e => by have := HF.out.size; omega)
        have HI3 := Lib.hid hi3
        have HF3 := Lib.hid (HF.out.trans hf3 (fun j _ e => .inl e))
        clear hs3 hf3 hi3
        go_wp2_with fail
        go_roundg (T.size - (q + 1))
        case measure => omega
        case rel => exact ⟨q + 1, by omega, by omega, by omega, HI3.out, HS3.out, HF3.out, fun i hi => by
          by_cases hiq : i < q
          · exact HM.out i hiq
          · have : i = q := by omega
            subst this
            rw [hpk, HT2.out]⟩
      · have HFL := Lib.hid (isAt_false (rs := rs) (p := p) (ts := txt T) (i := q) (by rw [txt_len]; exact hp) (by rw [HT2.out]; exact hpk))
        have hbf : bb = false := by rw [HBB.out, HFL.out]
        subst hbf
        have hpk' : (peekOf rs (p + q) == (r : Int)) = false := by simpa using hpk
        have hpk2 : (peekOf rs (p + q) != (r : Int)) = true := by simpa using hpk
        generalize peekOf rs (p + q) = pk at *
        go_wp2_with fail
        refine HNX.out.mono ?_
        rintro e w3 ⟨rfl, hs3, hf3⟩
        have c13 : w3.cell? ⟨b, 1, none⟩ = some (.int .i64 ((nextAt rs (p + q) : Nat) : Int)) := hs3.blk.cell 1
        have f13 := hs3.blk.frozen 1
        have hl3 := hs3.blk.lt
        have HG := Lib.hid (hs3.go p HP.out)
        have HF3 := Lib.hid (HF.out.trans hf3 (fun j _ e => .inl e))
        clear hs3 hf3
        go_wp2_with fail
        go_ret
        exact ⟨rfl, HG.out.1, (HF3.out.trans HG.out.2 (fun j _ e => .inl e)).mono (fun j hj h => h.elim id (fun h => absurd h (by omega)))⟩
    · have hnx := run_next_it_end hit hp
      have hqe : q = T.size := by omega
      subst hqe
      have hbt : bb = true := by rw [HBB.out]; exact isAt_true (fun i hi => hm i (by rw [txt_len] at hi; exact hi))
      subst hbt
      have HS2 := Lib.hid hs
      have HF := Lib.hid hf
      clear hit hs hf hm
      go_wp2_with fail
      go_ret
      exact ⟨rfl, HS2.out, HF.out.mono (fun j hj h => h.elim id (fun h => absurd h (by omega)))⟩

end Go.Proofs.YtebddgdkndmpjaaGreatDoor
