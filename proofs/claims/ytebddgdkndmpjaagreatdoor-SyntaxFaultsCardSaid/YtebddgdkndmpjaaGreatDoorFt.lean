/- The document: signs at a place, bytes, texts: walked. -/
import Derived.Test.YtebddgdkndmpjaaGreatDoorFr
import Derived.Test.YtebddgdkndmpjaaGreatDoorGt
import Derived.Deep.CutBlock
import Derived.Deep.RegionLawGrows
import Derived.Deep.Cut
import Derived.Deep.CutRange
import Derived.WalkKit
import Derived.WalkLawsBesides
import Derived.WalkSpells
import Derived.Deep.QuietTactic
import Derived.BigRegion
import Derived.BigQuiet
import Derived.Lib.Hide
import Derived.Outline
import Derived.Deep.AppendLies
import Derived.Deep.RegionLaw
import Derived.Deep.RegionWith
import Derived.Deep.RegionHeld3
import Derived.Deep.LoopGhost
import Derived.Deep.DeepFit
import Derived.Laws.ResultCell
import Derived.Laws.RangeAny
import Derived.Deep.MidRow
import Derived.StillTailTactics
import Derived.OpenShut
namespace Go.Proofs.YtebddgdkndmpjaaGreatDoor
set_option linter.unusedVariables false
open Go.RowKit Go

/-- The signs as a row of ints. -/
def Ls (w : World) (g c : Nat) (rs : List Int) : Prop := w.ownsRow 0 3 1 (.slice (some ⟨g, 0, none⟩) rs.length c) rs.length (rs.map (.int .i64))
theorem Ls.frF {w w' : World} {g c : Nat} {rs : List Int} (h : Ls w g c rs) (hf : Fr (fun _ => False) w w') : Ls w' g c rs := ownsRow_fr h hf (fun _ _ h => h)
theorem Ls.cell {w : World} {g c : Nat} {rs : List Int} (h : Ls w g c rs) {p : Nat} (hp : p < rs.length) : w.cell? ⟨g, p, none⟩ = some (.int .i64 (peekOf rs p)) := by
  rw [World.ownsRow.cellAt h p (by omega), List.getElem?_map, List.getElem?_eq_getElem hp]
  unfold peekOf
  rw [if_pos hp, List.getD_eq_getElem?_getD, List.getElem?_eq_getElem hp]
  rfl
theorem Ls.cap {w : World} {g c : Nat} {rs : List Int} (h : Ls w g c rs) : rs.length ≤ c := row_le h
theorem peek_past {rs : List Int} {p : Nat} (h : ¬ p < rs.length) : peekOf rs p = -1 := by unfold peekOf; rw [if_neg h]

set_option maxRecDepth 100000 in
set_option maxHeartbeats 4000000 in
theorem stands_any (g c p : Nat) (ch : Int) (rs : List Int) (w : World) (h0 : 0 ≤ ch) (h1 : ch ≤ 255) (hp : p ≤ 100000) (h : Ls w g c rs) :
    Calls Tryz.prog 42 #[.slice (some ⟨g, 0, none⟩) rs.length c, .int .i64 (p : Int), .int .u8 ch] w fun e w' => e = .returned (.bool (decide (peekOf rs p = ch))) ∧ w = w' := by
  have hcap := h.cap
  by_cases hlt : p < rs.length
  · have c0 := h.cell hlt
    generalize peekOf rs p = r at *
    clear h
    go_enter Tryz.func42, Tryz.ntmps42
    go_wp2_with fail
    go_ret
    exact ⟨rfl, rfl⟩
  · rw [peek_past hlt, decide_eq_false (by omega)]
    clear h
    go_enter Tryz.func42, Tryz.ntmps42
    go_wp2_with fail
    go_ret
    exact ⟨rfl, rfl⟩

def smallH : ByteArray := ⟨#[48, 49, 50, 51, 52, 53, 54, 55, 56, 57, 97, 98, 99, 100, 101, 102]⟩
def greatH : ByteArray := ⟨#[48, 49, 50, 51, 52, 53, 54, 55, 56, 57, 65, 66, 67, 68, 69, 70]⟩
theorem hex_at : ∀ j : Fin 16, hexR (byteAt smallH j) = ((j : Nat) : Int) ∧ hexR (byteAt greatH j) = ((j : Nat) : Int) := by decide
theorem hex_none (n : Int) (h : ∀ j, j < 16 → ¬ n = byteAt smallH j ∧ ¬ n = byteAt greatH j) : hexR n = -1 := by
  have a0 := h 0 (by decide); have a1 := h 1 (by decide); have a2 := h 2 (by decide); have a3 := h 3 (by decide); have a4 := h 4 (by decide); have a5 := h 5 (by decide); have a6 := h 6 (by decide); have a7 := h 7 (by decide)
  have a8 := h 8 (by decide); have a9 := h 9 (by decide); have b0 := h 10 (by decide); have b1 := h 11 (by decide); have b2 := h 12 (by decide); have b3 := h 13 (by decide); have b4 := h 14 (by decide); have b5 := h 15 (by decide)
  rw [show byteAt smallH 0 = 48 from by decide] at a0
  rw [show byteAt smallH 1 = 49 from by decide] at a1
  rw [show byteAt smallH 2 = 50 from by decide] at a2
  rw [show byteAt smallH 3 = 51 from by decide] at a3
  rw [show byteAt smallH 4 = 52 from by decide] at a4
  rw [show byteAt smallH 5 = 53 from by decide] at a5
  rw [show byteAt smallH 6 = 54 from by decide] at a6
  rw [show byteAt smallH 7 = 55 from by decide] at a7
  rw [show byteAt smallH 8 = 56 from by decide] at a8
  rw [show byteAt smallH 9 = 57 from by decide] at a9
  rw [show byteAt smallH 10 = 97 from by decide, show byteAt greatH 10 = 65 from by decide] at b0
  rw [show byteAt smallH 11 = 98 from by decide, show byteAt greatH 11 = 66 from by decide] at b1
  rw [show byteAt smallH 12 = 99 from by decide, show byteAt greatH 12 = 67 from by decide] at b2
  rw [show byteAt smallH 13 = 100 from by decide, show byteAt greatH 13 = 68 from by decide] at b3
  rw [show byteAt smallH 14 = 101 from by decide, show byteAt greatH 14 = 69 from by decide] at b4
  rw [show byteAt smallH 15 = 102 from by decide, show byteAt greatH 15 = 70 from by decide] at b5
  unfold hexR
  rw [if_neg (by omega), if_neg (by omega), if_neg (by omega)]

set_option maxRecDepth 100000 in
set_option maxHeartbeats 4000000 in
theorem rhex_any (n : Int) (w : World) : Calls Tryz.prog 103 #[.int .i64 n] w fun e w' => e = .returned (.int .i64 (hexR n)) ∧ w = w' := by
  obtain ⟨res, hres⟩ : ∃ x, x = hexR n := ⟨_, rfl⟩
  rw [← hres]
  have HR := Lib.hid hres
  clear hres
  go_enter Tryz.func103, Tryz.ntmps103
  go_wp2_with fail
  go_loopg [5] (16) (fun g a wr => ∃ j : Nat, 16 ≤ j + g ∧ j ≤ 16 ∧ a = .int .i64 (j : Int) ∧ w = wr ∧ ∀ k, k < j → ¬ n = byteAt smallH k ∧ ¬ n = byteAt greatH k)
  case atStart => exact ⟨0, by omega, by omega, rfl, rfl, fun k hk => absurd hk (Nat.not_lt_zero _)⟩
  case round =>
    obtain ⟨j, hg, hj, rfl, rfl, hno⟩ := hrel
    have HNO := Lib.hid hno
    clear hno
    by_cases hj16 : j < 16
    · have h1 : ∀ w, (Instr.index 9 (.string ⟨#[48, 49, 50, 51, 52, 53, 54, 55, 56, 57, 97, 98, 99, 100, 101, 102]⟩) (.int .i64 (j : Int))).run Tryz.prog w = .ok (.int .u8 (byteAt smallH j)) w := fun w => run_index_at (s := smallH) hj16 w
      have h2 : ∀ w, (Instr.index 9 (.string ⟨#[48, 49, 50, 51, 52, 53, 54, 55, 56, 57, 65, 66, 67, 68, 69, 70]⟩) (.int .i64 (j : Int))).run Tryz.prog w = .ok (.int .u8 (byteAt greatH j)) w := fun w => run_index_at (s := greatH) hj16 w
      have b1 := byteAt_le smallH j
      have b2 := byteAt_le greatH j
      have HAT := Lib.hid (hex_at ⟨j, hj16⟩)
      have HJ := Lib.hid (show ∀ k, k < j + 1 → ¬ n = byteAt smallH j → ¬ n = byteAt greatH j → ¬ n = byteAt smallH k ∧ ¬ n = byteAt greatH k from fun k hk e1 e2 => by
        by_cases h3 : k < j
        · exact HNO.out k h3
        · obtain rfl : k = j := by omega
          exact ⟨e1, e2⟩)
      generalize byteAt smallH j = k1 at *
      generalize byteAt greatH j = k2 at *
      by_cases e1 : n = k1
      · subst e1
        have hr : res = (j : Int) := by rw [HR.out]; exact HAT.out.1
        subst hr
        go_wp2_with fail
        go_ret
        exact ⟨rfl, rfl⟩
      · by_cases e2 : n = k2
        · subst e2
          have hr : res = (j : Int) := by rw [HR.out]; exact HAT.out.2
          subst hr
          go_wp2_with fail
          go_ret
          exact ⟨rfl, rfl⟩
        · have be1 : (n == k1) = false := by simpa using e1
          have be2 : (n == k2) = false := by simpa using e2
          go_wp2_with fail
          go_roundg (16 - (j + 1))
          case measure => omega
          case rel => exact ⟨j + 1, by omega, by omega, rfl, rfl, fun k hk => HJ.out k hk e1 e2⟩
    · obtain rfl : j = 16 := by omega
      have hr : res = -1 := by rw [HR.out]; exact hex_none n (fun k hk => HNO.out k hk)
      subst hr
      go_wp2_with fail
      go_ret
      exact ⟨rfl, rfl⟩

theorem info5b : (Tryz.prog.info? 5).map (fun i => (i.zero, i.size, i.bytes)) = some (some (.int .u8 0), 1, 1) := by kernel_rfl
set_option maxRecDepth 100000 in
set_option maxHeartbeats 4000000 in
/-- A sign's bytes. -/
theorem rbytesX (x : Int) (w : World) (hx : signR x = true) : Calls Tryz.prog 102 #[.int .i64 x] w fun e w' => ∃ v, e = .returned v ∧ w'.ownsRow w.heap.size 5 1 v (Lib.encodeRune x).length (Lib.byteCells (Lib.encodeRune x)) ∧ Fr (fun _ => False) w w' := by
  have hs := (signR_iff x).1 hx
  rw [Lib.byteCells_encodeRune]
  have hen : (Lib.encodeRune x).length = (Lib.encodeRuneZ x).length := by unfold Lib.encodeRune; rw [List.length_map]
  rw [hen]
  rcases (show x ≤ 127 ∨ (128 ≤ x ∧ x ≤ 2047) ∨ (2048 ≤ x ∧ x ≤ 65535) ∨ 65536 ≤ x by omega) with hI | hI | hI | hI
  · have e128lt : decide (x < 128) = true := decide_eq_true (by omega)
    have HL := Lib.hid (Lib.encodeRuneZ_one (r := x) hs.1 hI)
    have w1 : IntKind.u8.wrap x = x := by unfold IntKind.wrap; simp [IntKind.bits]; omega
    clear hI
    go_enter Tryz.func102, Tryz.ntmps102
    go_wp2_with fail
    go_ret
    refine ⟨_, rfl, ?_, (Fr.refl _ _).alloc _⟩
    rw [show Lib.runeCells x = [.int .u8 x] by unfold Lib.runeCells; rw [HL.out]; rfl, HL.out]
    exact World.ownsRow_lit (base := w.heap.size) (e := 5) (size := 1) w #[.int .u8 x] 1 (Nat.le_refl _) (by decide) rfl
  · have e128lt : decide (x < 128) = false := decide_eq_false (by omega)
    have e2048lt : decide (x < 2048) = true := decide_eq_true (by omega)
    have HL := Lib.hid (Lib.encodeRuneZ_two (r := x) hI.1 hI.2)
    go_enter Tryz.func102, Tryz.ntmps102
    go_wp2_with fail
    go_ret
    refine ⟨_, rfl, ?_, (Fr.refl _ _).alloc _⟩
    rw [show Lib.runeCells x = [.int .u8 (192 + x / 64), .int .u8 (128 + x % 64)] by unfold Lib.runeCells; rw [HL.out]; rfl, HL.out]
    exact World.ownsRow_lit (base := w.heap.size) (e := 5) (size := 1) w #[.int .u8 (192 + x / 64), .int .u8 (128 + x % 64)] 2 (Nat.le_refl _) (by decide) rfl
  · have e128lt : decide (x < 128) = false := decide_eq_false (by omega)
    have e2048lt : decide (x < 2048) = false := decide_eq_false (by omega)
    have e65536lt : decide (x < 65536) = true := decide_eq_true (by omega)
    have HL := Lib.hid (Lib.encodeRuneZ_three (r := x) (by omega))
    go_enter Tryz.func102, Tryz.ntmps102
    go_wp2_with fail
    go_ret
    refine ⟨_, rfl, ?_, (Fr.refl _ _).alloc _⟩
    rw [show Lib.runeCells x = [.int .u8 (224 + x / 4096), .int .u8 (128 + x / 64 % 64), .int .u8 (128 + x % 64)] by unfold Lib.runeCells; rw [HL.out]; rfl, HL.out]
    exact World.ownsRow_lit (base := w.heap.size) (e := 5) (size := 1) w #[.int .u8 (224 + x / 4096), .int .u8 (128 + x / 64 % 64), .int .u8 (128 + x % 64)] 3 (Nat.le_refl _) (by decide) rfl
  · have e128lt : decide (x < 128) = false := decide_eq_false (by omega)
    have e2048lt : decide (x < 2048) = false := decide_eq_false (by omega)
    have e65536lt : decide (x < 65536) = false := decide_eq_false (by omega)
    have HL := Lib.hid (show Lib.encodeRuneZ x = [240 + x / 262144, 128 + x / 4096 % 64, 128 + x / 64 % 64, 128 + x % 64] by unfold Lib.encodeRuneZ; rw [if_neg (by omega), if_neg (by omega), if_neg (by omega), if_pos (by omega)])
    go_enter Tryz.func102, Tryz.ntmps102
    go_wp2_with fail
    go_ret
    refine ⟨_, rfl, ?_, (Fr.refl _ _).alloc _⟩
    rw [show Lib.runeCells x = [.int .u8 (240 + x / 262144), .int .u8 (128 + x / 4096 % 64), .int .u8 (128 + x / 64 % 64), .int .u8 (128 + x % 64)] by unfold Lib.runeCells; rw [HL.out]; rfl, HL.out]
    exact World.ownsRow_lit (base := w.heap.size) (e := 5) (size := 1) w #[.int .u8 (240 + x / 262144), .int .u8 (128 + x / 4096 % 64), .int .u8 (128 + x / 64 % 64), .int .u8 (128 + x % 64)] 4 (Nat.le_refl _) (by decide) rfl

theorem conv_bytes {w : World} {B n c : Nat} {A : Option Addr} {l : List UInt8} (h : w.ownsRow B 5 1 (.slice A n c) n (Lib.byteCells l)) : (convert 86 9 (.slice A n c)).run Tryz.prog w = .ok (.string ⟨l.toArray⟩) w := by
  have hl : l.length = n := by have := h.1; rw [byteCells_len] at this; omega
  subst hl
  rcases Nat.eq_zero_or_pos l.length with h0 | h0
  · obtain rfl : l = [] := List.eq_nil_of_length_eq_zero h0
    cases A with
    | none =>
      rw [run_convert_bytes_string w 86 9 5 none _ c Tryz.underlying86 Tryz.underlying5 Tryz.underlying9]
      rfl
    | some a => exact run_convert_bytes_back (P := Tryz.prog) w 86 9 5 a c [] Tryz.underlying86 Tryz.underlying5 Tryz.underlying9 (fun j hj => absurd hj (Nat.not_lt_zero _))
  · obtain ⟨g, rfl, _, _, _⟩ := row_form h h0
    refine run_convert_bytes_back (P := Tryz.prog) w 86 9 5 ⟨g, 0, none⟩ c l Tryz.underlying86 Tryz.underlying5 Tryz.underlying9 (fun j hj => ?_)
    refine World.ownsRow.cells h (g := g) rfl j _ ?_
    unfold Lib.byteCells
    rw [List.getElem?_map, List.getElem?_eq_getElem hj]
    rfl
theorem byteCells_append (a b : List UInt8) : Lib.byteCells (a ++ b) = Lib.byteCells a ++ Lib.byteCells b := by unfold Lib.byteCells; rw [List.map_append]
theorem encodeRune_pos (r : Int) : 0 < (Lib.encodeRune r).length := by
  have hen := Lib.encodeRuneZ_length r
  unfold Lib.encodeRune
  rw [List.length_map]
  omega
theorem byte_one (l : List UInt8) : ∀ u ∈ Lib.byteCells l, u.oneCell' = true := fun u hu => by
  unfold Lib.byteCells at hu
  obtain ⟨b, _, rfl⟩ := List.mem_map.1 hu
  rfl

set_option maxRecDepth 100000 in
set_option maxHeartbeats 4000000 in
/-- The text of signs. -/
theorem rtext_sub (n c : Nat) (A : Option Addr) (l : List Int) (w : World) (hl : n = l.length) (hl2 : n ≤ 5000) (hv : ∀ x, x ∈ l → signR x = true) (hcap : n ≤ c) (hA : 0 < n → ∃ g off, A = some ⟨g, off, none⟩ ∧ g < w.heap.size ∧ ∀ j, j < n → w.cell? ⟨g, off + j, none⟩ = some (.int .i64 (l.getD j 0))) :
    Calls Tryz.prog 46 #[.slice A n c] w fun e w' => e = .returned (.string (strL l)) ∧ Fr (fun _ => False) w w' := by
  obtain ⟨i5, hi5, hz50, hz51, hz52⟩ := info_parts info5b
  have HB := Lib.hid (fun x w1 hx => rbytesX x w1 hx)
  have HV := Lib.hid hv
  have HA := Lib.hid hA
  clear hv hA
  go_enter Tryz.func46, Tryz.ntmps46
  go_wp2_with fail
  subst hl
  go_loopg [3, 7] (l.length) (fun g a3 a7 wr => ∃ (j : Nat), a7 = .int .i64 (j : Int) ∧ l.length ≤ j + g ∧ j ≤ l.length ∧ wr.ownsRow w.heap.size 5 1 a3 (encL (l.take j)).length (Lib.byteCells (encL (l.take j))) ∧ Fr (fun _ => False) w wr)
  case atStart => exact ⟨0, rfl, by omega, Nat.zero_le _, World.ownsRow_nil _ _ _ _, Fr.refl _ _⟩
  case round =>
    obtain ⟨j, rfl, hg, hj, hrow, hf⟩ := hrel
    have HF := Lib.hid hf
    have HROW := Lib.hid hrow
    have hsz := hf.size
    obtain ⟨A3, c3, hv3⟩ := row_shape hrow
    subst hv3
    by_cases hjl : j < l.length
    · obtain ⟨g0, off, rfl, hg0, hcs⟩ := HA.out (by omega)
      have c0 : wr.cell? ⟨g0, off + j, none⟩ = some (.int .i64 (l.getD j 0)) := by
        rw [← hcs j hjl]
        unfold World.cell?
        rw [hf.block g0 hg0 (fun h => h)]
      have HBB := Lib.hid (HB.out (l.getD j 0) wr (HV.out _ (by rw [List.getD_eq_getElem?_getD, List.getElem?_eq_getElem hjl]; exact List.getElem_mem hjl)))
      have hst : encL (l.take j) ++ Lib.encodeRune (l.getD j 0) = encL (l.take (j + 1)) := by
        rw [encL_push, List.take_add_one, List.getD_eq_getElem?_getD, List.getElem?_eq_getElem hjl]
        rfl
      have HST := Lib.hid hst
      have hep := encodeRune_pos (l.getD j 0)
      have hele := encodeRune_le (l.getD j 0)
      have hell := encL_len (l.take j)
      have htl : (l.take j).length = j := by rw [List.length_take]; omega
      generalize l.getD j 0 = x at *
      clear hrow hf hst hcs
      go_wp2_with fail
      refine HBB.out.mono ?_
      rintro e w2 ⟨v2, rfl, hown2, hf2⟩
      obtain ⟨A2, c2, hv2⟩ := row_shape hown2
      subst hv2
      obtain ⟨g2, rfl, _, _, _⟩ := row_form hown2 hep
      have HO2 := Lib.hid hown2
      have HR2 := Lib.hid (ownsRow_fr HROW.out hf2 (fun _ _ h => h))
      have HF2 := Lib.hid (HF.out.trans' hf2)
      have hz2 := hf2.size
      clear hown2 hf2
      go_wp2_with (at_builtin; refine wpList_append_own _ rfl _ _ 86 rfl w.heap.size 5 i5 _ 1 1 Tryz.underlying86 hi5 hz50 hz51 hz52 rfl (by decide) (.slice A3 (encL (l.take j)).length c3) (encL (l.take j)).length (Lib.byteCells (encL (l.take j))) (by rfl) HR2.out ⟨g2, 0, none⟩ (Lib.encodeRune x).length c2 (Lib.byteCells (Lib.encodeRune x)) (by rfl) (by rw [byteCells_len, Nat.mul_one]) (World.ownsRow.cells HO2.out (g := g2) rfl) (byte_one _) (by unfold maxLen; omega) (by omega) (by omega) ?_; intro v7 w7 hown7 hgr7 _; have F7 := (show Fr (fun j => w.heap.size ≤ j) w2 w7 from (Fr.of_grown hgr7).mono (fun j _ e => (HR2.out.lt j e).1)); have HOWN7 := Lib.hid hown7; have HF7 := Lib.hid ((HF2.out.mono (T := fun j => w.heap.size ≤ j) (fun _ _ h => h.elim)).trans F7 (fun _ _ h => h)); clear hown7 hgr7 F7)
      go_roundg (l.length - (j + 1))
      case measure => omega
      case rel => exact ⟨j + 1, rfl, by omega, by omega, by rw [← HST.out, List.length_append, byteCells_append]; exact HOWN7.out, HF7.out.shut (Nat.le_refl _)⟩
    · obtain rfl : j = l.length := by omega
      rw [List.take_length] at HROW
      have hcv := conv_bytes HROW.out
      have e : (⟨(encL l).toArray⟩ : ByteArray) = strL l := rfl
      rw [e] at hcv
      clear hrow hf e
      go_wp2_with fail
      go_ret
      exact ⟨rfl, HF.out⟩

theorem rtext_any (B n c : Nat) (A : Option Addr) (l : List Int) (w : World) (hl : n = l.length) (hl2 : n ≤ 5000) (hv : ∀ x, x ∈ l → signR x = true) (h : w.ownsRow B 3 1 (.slice A n c) n (l.map (.int .i64))) :
    Calls Tryz.prog 46 #[.slice A n c] w fun e w' => e = .returned (.string (strL l)) ∧ Fr (fun _ => False) w w' := by
  refine rtext_sub n c A l w hl hl2 hv (row_le h) (fun h0 => ?_)
  obtain ⟨g, rfl, _, hg, _⟩ := row_form h h0
  refine ⟨g, 0, rfl, hg, fun j hj => ?_⟩
  rw [Nat.zero_add, World.ownsRow.cellAt h j (by omega), List.getElem?_map, List.getElem?_eq_getElem (by omega), List.getD_eq_getElem?_getD, List.getElem?_eq_getElem (by omega)]
  rfl

end Go.Proofs.YtebddgdkndmpjaaGreatDoor
