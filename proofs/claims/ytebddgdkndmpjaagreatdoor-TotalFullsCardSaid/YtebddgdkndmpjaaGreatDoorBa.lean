/- The scanner: its place, the next sign: walked. -/
import Derived.Test.YtebddgdkndmpjaaGreatDoorGv
import Derived.Deep.CutBlock
import Derived.Deep.RegionLawGrows
import Derived.Deep.Cut
import Derived.Deep.CutRange
import Derived.WalkKit
import Derived.WalkLawsBesides
import Derived.WalkSpells
import Derived.Deep.QuietTactic
import Derived.BigRegion
import Derived.BigQuiet
import Derived.Lib.Hide
import Derived.Outline
import Derived.Deep.AppendLies
import Derived.Deep.RegionLaw
import Derived.Deep.RegionWith
import Derived.Deep.RegionHeld3
import Derived.Deep.LoopGhost
import Derived.Deep.DeepFit
import Derived.Laws.ResultCell
import Derived.Laws.RangeAny
import Derived.Deep.MidRow
import Derived.StillTailTactics
import Derived.OpenShut
namespace Go.Proofs.YtebddgdkndmpjaaGreatDoor
set_option linter.unusedVariables false
open Go.RowKit Go

/-- A scanner of signs, at a place. -/
structure Sc (w : World) (b : Nat) (A : Option Addr) (c : Nat) (rs : List Int) (p : Nat) : Prop where
  blk : Blk w b 239 #[.slice A rs.length c, .int .i64 (p : Int)]
  row : w.ownsRow 0 21 1 (.slice A rs.length c) rs.length (rs.map (.int .i32))
  le : p ≤ rs.length
  small : rs.length ≤ 4096
  pos : 0 < rs.length
  valid : ∀ r, r ∈ rs → Lib.validRune r = true ∧ 0 ≤ r
theorem Sc.fr {S : Nat → Prop} {w w' : World} {b c p : Nat} {A : Option Addr} {rs : List Int} (h : Sc w b A c rs p) (hf : Fr S w w') (h1 : ¬ S b) (h2 : ∀ j, (Value.slice A rs.length c).ownBlock = some j → ¬ S j) : Sc w' b A c rs p :=
  ⟨h.blk.fr hf h1, ownsRow_fr h.row hf h2, h.le, h.small, h.pos, h.valid⟩
theorem Sc.frF {w w' : World} {b c p : Nat} {A : Option Addr} {rs : List Int} (h : Sc w b A c rs p) (hf : Fr (fun _ => False) w w') : Sc w' b A c rs p := h.fr hf (fun h => h) (fun _ _ h => h)
theorem Sc.go {w : World} {b c p : Nat} {A : Option Addr} {rs : List Int} (h : Sc w b A c rs p) (q : Nat) (hq : q ≤ rs.length) : Sc (w.setCell ⟨b, 1, none⟩ (.int .i64 (q : Int))) b A c rs q ∧ Fr (fun j => j = b) w (w.setCell ⟨b, 1, none⟩ (.int .i64 (q : Int))) := by
  have FS : Fr (fun j => j = b) w (w.setCell ⟨b, 1, none⟩ (.int .i64 (q : Int))) := (Fr.refl (fun j => j = b) w).setCell ⟨b, 1, none⟩ (fun _ => rfl) _
  exact ⟨⟨h.blk.set_ 1 (.int .i64 (q : Int)), ownsRow_fr h.row FS (fun j hj e => own_blk_ne h.row h.blk (by decide) (by rw [hj, e])), hq, h.small, h.pos, h.valid⟩, FS⟩
theorem rune_cell {w : World} {B g c : Nat} {rs : List Int} {n : Nat} (h : w.ownsRow B 21 1 (.slice (some ⟨g, 0, none⟩) n c) n (rs.map (.int .i32))) (j : Nat) (hj : j < n) : w.cell? ⟨g, j, none⟩ = some (.int .i32 (rs.getD j 0)) := by
  have hl : rs.length = n := by have := h.1; simpa using this
  rw [World.ownsRow.cellAt h j (by omega), List.getElem?_map, List.getElem?_eq_getElem (by omega), List.getD_eq_getElem?_getD, List.getElem?_eq_getElem (by omega)]
  rfl

/-- The sign at a place; none: -1. -/
def peekOf (rs : List Int) (p : Nat) : Int := if p < rs.length then rs.getD p 0 else -1
def nextAt (rs : List Int) (p : Nat) : Nat := if p < rs.length then p + 1 else p

set_option maxRecDepth 100000 in
set_option maxHeartbeats 4000000 in
theorem place_sc (b c p : Nat) (A : Option Addr) (rs : List Int) (w : World) (h : Sc w b A c rs p) : Calls Tryz.prog 91 #[.pointer (some ⟨b, 0, none⟩)] w fun e w' => e = .returned (.int .i64 (p : Int)) ∧ w = w' := by
  have c1 : w.cell? ⟨b, 1, none⟩ = some (.int .i64 (p : Int)) := h.blk.cell 1
  clear h
  go_enter Tryz.func91, Tryz.ntmps91
  go_wp2_with fail
  go_ret
  exact ⟨rfl, rfl⟩

theorem int_beq (p n : Nat) : (((p : Int) == (n : Int))) = decide (p = n) := by
  by_cases h : p = n
  · subst h; simp
  · rw [decide_eq_false h]
    simp
    omega

set_option maxRecDepth 100000 in
set_option maxHeartbeats 4000000 in
theorem end_sc (b c p : Nat) (A : Option Addr) (rs : List Int) (w : World) (h : Sc w b A c rs p) : Calls Tryz.prog 89 #[.pointer (some ⟨b, 0, none⟩)] w fun e w' => e = .returned (.bool (decide (p = rs.length))) ∧ Fr (fun _ => False) w w' := by
  have c0 : w.cell? ⟨b, 0, none⟩ = some (.slice A rs.length c) := h.blk.cell 0
  have c1 : w.cell? ⟨b, 1, none⟩ = some (.int .i64 (p : Int)) := h.blk.cell 1
  generalize rs.length = n at *
  clear h
  go_enter Tryz.func89, Tryz.ntmps89
  go_wp2_with fail
  go_big_quiet (fail)
  go_wp2_with fail
  go_ret
  exact ⟨by rw [int_beq]; rfl, (Fr.refl _ _).drewN _⟩

set_option maxRecDepth 100000 in
set_option maxHeartbeats 4000000 in
theorem peek_sc (b c p : Nat) (A : Option Addr) (rs : List Int) (w : World) (h : Sc w b A c rs p) : Calls Tryz.prog 148 #[.pointer (some ⟨b, 0, none⟩)] w fun e w' => e = .returned (.int .i32 (peekOf rs p)) ∧ Fr (fun _ => False) w w' := by
  have HE := Lib.hid (end_sc b c p A rs w h)
  have HS := Lib.hid h
  unfold peekOf
  by_cases hp : p < rs.length
  · rw [decide_eq_false (by omega)] at HE
    rw [if_pos hp]
    obtain ⟨r, hrr⟩ : ∃ r, r = rs.getD p 0 := ⟨_, rfl⟩
    rw [← hrr]
    clear h
    go_enter Tryz.func148, Tryz.ntmps148
    go_wp2_with fail
    refine HE.out.mono ?_
    rintro e w1 ⟨rfl, hf1⟩
    have hs := HS.out.frF hf1
    have hr := hs.row
    obtain ⟨g, rfl, _, _, _⟩ := row_form hr (by omega)
    have cc := rune_cell hr p hp
    rw [← hrr] at cc
    have c0 : w1.cell? ⟨b, 0, none⟩ = some (.slice (some ⟨g, 0, none⟩) rs.length c) := hs.blk.cell 0
    have c1 : w1.cell? ⟨b, 1, none⟩ = some (.int .i64 (p : Int)) := hs.blk.cell 1
    have hlt : (p : Int) < (rs.length : Int) := by omega
    have HF := Lib.hid hf1
    clear hs hr hf1 HE HS hrr
    go_wp2_with fail
    go_big_quiet (fail)
    go_wp2_with fail
    go_ret
    exact ⟨rfl, HF.out.drewN _⟩
  · rw [decide_eq_true (by have := h.le; omega)] at HE
    rw [if_neg hp]
    clear h
    go_enter Tryz.func148, Tryz.ntmps148
    go_wp2_with fail
    refine HE.out.mono ?_
    rintro e w1 ⟨rfl, hf1⟩
    go_wp2_with fail
    go_ret
    exact ⟨rfl, hf1⟩

/-- The scanner stands at a place; what it is made of stays. -/
def ScPost (w : World) (b : Nat) (A : Option Addr) (c : Nat) (rs : List Int) (q : Nat) (v : Value) (e : Ending) (w' : World) : Prop := e = .returned v ∧ Sc w' b A c rs q ∧ Fr (fun j => j = b) w w'

theorem peek_ne {w : World} {b c p : Nat} {A : Option Addr} {rs : List Int} (h : Sc w b A c rs p) (hp : p < rs.length) : ¬ rs.getD p 0 = -1 := by
  have := (h.valid (rs.getD p 0) (by rw [List.getD_eq_getElem?_getD, List.getElem?_eq_getElem hp]; exact List.getElem_mem hp)).2
  omega

set_option maxRecDepth 100000 in
set_option maxHeartbeats 4000000 in
theorem next_sc (b c p : Nat) (A : Option Addr) (rs : List Int) (w : World) (h : Sc w b A c rs p) : Calls Tryz.prog 207 #[.pointer (some ⟨b, 0, none⟩)] w (ScPost w b A c rs (nextAt rs p) (.int .i32 (peekOf rs p))) := by
  have HE := Lib.hid (peek_sc b c p A rs w h)
  have HS := Lib.hid h
  unfold nextAt
  by_cases hp : p < rs.length
  · have hne := peek_ne h hp
    unfold peekOf at HE ⊢
    rw [if_pos hp] at HE ⊢
    rw [if_pos hp]
    have hsm := h.small
    clear h
    generalize rs.getD p 0 = r at *
    go_enter Tryz.func207, Tryz.ntmps207
    go_wp2_with fail
    refine HE.out.mono ?_
    rintro e w1 ⟨rfl, hf1⟩
    have hs := HS.out.frF hf1
    have c1 : w1.cell? ⟨b, 1, none⟩ = some (.int .i64 (p : Int)) := hs.blk.cell 1
    have f1 := hs.blk.frozen 1
    have hlt := hs.blk.lt
    have HG := Lib.hid (hs.go (p + 1) (by omega))
    have HF := Lib.hid hf1
    clear hs hf1 HE HS
    go_wp2_with fail
    go_ret
    exact ⟨rfl, HG.out.1, (HF.out.mono (fun _ _ h => h.elim)).trans' HG.out.2⟩
  · unfold peekOf at HE ⊢
    rw [if_neg hp] at HE ⊢
    rw [if_neg hp]
    clear h
    go_enter Tryz.func207, Tryz.ntmps207
    go_wp2_with fail
    refine HE.out.mono ?_
    rintro e w1 ⟨rfl, hf1⟩
    go_wp2_with fail
    go_ret
    exact ⟨rfl, HS.out.frF hf1, hf1.mono (fun _ _ h => h.elim)⟩

set_option maxRecDepth 100000 in
set_option maxHeartbeats 4000000 in
theorem back_sc (b c p q : Nat) (A : Option Addr) (rs : List Int) (w : World) (h : Sc w b A c rs p) (hq : q ≤ rs.length) : Calls Tryz.prog 149 #[.pointer (some ⟨b, 0, none⟩), .int .i64 (q : Int)] w (ScPost w b A c rs q (.bool true)) := by
  have c0 : w.cell? ⟨b, 0, none⟩ = some (.slice A rs.length c) := h.blk.cell 0
  have c1 : w.cell? ⟨b, 1, none⟩ = some (.int .i64 (p : Int)) := h.blk.cell 1
  have f1 := h.blk.frozen 1
  have hlt := h.blk.lt
  have HG := Lib.hid (h.go q hq)
  have h0 : ¬ (q : Int) < 0 := by omega
  have h1 : ¬ (q : Int) > (rs.length : Int) := by omega
  clear h
  go_enter Tryz.func149, Tryz.ntmps149
  go_wp2_with fail
  go_ret
  exact ⟨rfl, HG.out.1, HG.out.2⟩

set_option maxRecDepth 100000 in
set_option maxHeartbeats 4000000 in
theorem class_none (w : World) : Calls Tryz.prog 205 #[.int .i32 (-1)] w fun e w' => e = .returned (.int .i64 6) ∧ w = w' := by
  have HV := Tryz.utf8_ValidRune (-1) w
  rw [show Lib.validRune (-1) = false from rfl] at HV
  go_enter Tryz.func205, Tryz.ntmps205
  go_wp2_with fail
  refine HV.mono ?_
  rintro e w1 ⟨rfl, rfl⟩
  go_wp2_with fail
  go_ret
  exact ⟨rfl, rfl⟩

/-- A sign's class; none: 6. -/
def clsOf (r : Int) : Int := if r = -1 then 6 else classOf r
theorem cls_any (r : Int) (w : World) (hv : r = -1 ∨ Lib.validRune r = true) : Calls Tryz.prog 205 #[.int .i32 r] w fun e w' => e = .returned (.int .i64 (clsOf r)) ∧ w = w' := by
  unfold clsOf
  by_cases h : r = -1
  · subst h
    rw [if_pos rfl]
    exact class_none w
  · rw [if_neg h]
    exact class_of r w (hv.resolve_left h)

/-- May a sign go on in a word? -/
def letterOf (r : Int) : Bool := (clsOf r == 1) || (clsOf r == 2) || (r == 95)
set_option maxRecDepth 100000 in
set_option maxHeartbeats 4000000 in
theorem letter_any (r : Int) (w : World) (hv : r = -1 ∨ Lib.validRune r = true) : Calls Tryz.prog 147 #[.int .i32 r] w fun e w' => e = .returned (.bool (letterOf r)) ∧ w = w' := by
  have HC := Lib.hid (fun w => cls_any r w hv)
  unfold letterOf
  generalize clsOf r = k at *
  by_cases h1 : k = 1
  · subst h1
    go_enter Tryz.func147, Tryz.ntmps147
    go_wp2_with fail
    refine (HC.out _).mono ?_
    rintro e w1 ⟨rfl, rfl⟩
    go_wp2_with fail
    go_ret
    exact ⟨rfl, rfl⟩
  · have h1' : (k == 1) = false := by simpa using h1
    rw [h1']
    by_cases h2 : k = 2
    · subst h2
      go_enter Tryz.func147, Tryz.ntmps147
      go_wp2_with fail
      refine (HC.out _).mono ?_
      rintro e w1 ⟨rfl, rfl⟩
      go_wp2_with fail
      refine (HC.out _).mono ?_
      rintro e w1 ⟨rfl, rfl⟩
      go_wp2_with fail
      go_ret
      exact ⟨rfl, rfl⟩
    · have h2' : (k == 2) = false := by simpa using h2
      rw [h2']
      go_enter Tryz.func147, Tryz.ntmps147
      go_wp2_with fail
      refine (HC.out _).mono ?_
      rintro e w1 ⟨rfl, rfl⟩
      go_wp2_with fail
      refine (HC.out _).mono ?_
      rintro e w1 ⟨rfl, rfl⟩
      go_wp2_with fail
      go_ret
      exact ⟨by simp, rfl⟩

end Go.Proofs.YtebddgdkndmpjaaGreatDoor
