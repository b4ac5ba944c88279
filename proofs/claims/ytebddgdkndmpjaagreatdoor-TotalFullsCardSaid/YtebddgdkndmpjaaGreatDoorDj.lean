/- The text of a term, two ways: walked. -/
import Derived.Test.YtebddgdkndmpjaaGreatDoorBf
import Derived.Test.YtebddgdkndmpjaaGreatDoorBq
import Derived.Test.YtebddgdkndmpjaaGreatDoorHg
import Derived.Test.YtebddgdkndmpjaaGreatDoorDg
import Derived.WalkMore
import Derived.Deep.CutBlock
import Derived.Deep.RegionLawGrows
import Derived.Deep.Cut
import Derived.Deep.CutRange
import Derived.WalkKit
import Derived.WalkLawsBesides
import Derived.WalkSpells
import Derived.Deep.QuietTactic
import Derived.BigRegion
import Derived.BigQuiet
import Derived.Lib.Hide
import Derived.Outline
import Derived.Deep.AppendLies
import Derived.Deep.RegionLaw
import Derived.Deep.RegionWith
import Derived.Deep.RegionHeld3
import Derived.Deep.LoopGhost
import Derived.Deep.DeepFit
import Derived.Laws.ResultCell
import Derived.Laws.RangeAny
import Derived.Deep.MidRow
import Derived.StillTailTactics
import Derived.OpenShut
import Derived.Laws.IdiomStrings
namespace Go.Proofs.YtebddgdkndmpjaaGreatDoor
set_option linter.unusedVariables false
open Go.RowKit Go

set_option maxRecDepth 100000 in
set_option maxHeartbeats 4000000 in
/-- A byte, written to a builder. -/
theorem wbyte_any (B b : Nat) (l : List UInt8) (c : UInt8) (w : World) (hl : l.length ≤ 10000) (hB : B ≤ w.heap.size) (h : Bu w B b l) :
    Calls Tryz.prog 222 #[.pointer (some ⟨b, 0, none⟩), .int .u8 (c.toNat : Int)] w fun e w' => e = .returned .nilIface ∧ Bu w' B b (l ++ [c]) ∧ Fr (fun j => B ≤ j) w w' := by
  obtain ⟨i5, hi5, hz50, hz51, hz52⟩ := info_parts info5
  obtain ⟨p, v, hb, hp, hr, hBb⟩ := h
  have HC : Calls Tryz.prog 224 #[.pointer (some ⟨b, 0, none⟩)] w fun e w' => e = .returned (.tuple #[]) ∧ Blk w' b 263 #[.pointer (some ⟨b, 0, none⟩), v] ∧ w'.ownsRow B 5 1 v l.length (Lib.byteCells l) ∧ Fr (fun j => j = b) w w' := by
    rcases hp with rfl | rfl
    · refine (copy_fresh b v w hb).mono ?_
      rintro e w' ⟨rfl, rfl⟩
      have FS : Fr (fun j => j = b) w (w.setCell ⟨b, 0, none⟩ (.pointer (some ⟨b, 0, none⟩))) := (Fr.refl (fun j => j = b) w).setCell ⟨b, 0, none⟩ (fun _ => rfl) _
      exact ⟨rfl, hb.set_ 0 (.pointer (some ⟨b, 0, none⟩)), ownsRow_fr hr FS (fun j hj e => own_blk_ne hr hb (by decide) (by rw [hj, e])), FS⟩
    · refine (copy_used b v w hb).mono ?_
      rintro e w' ⟨rfl, rfl⟩
      exact ⟨rfl, hb, hr, Fr.refl _ _⟩
  obtain ⟨A, cc, hv⟩ := row_shape hr
  subst hv
  have HCH := Lib.hid HC
  have HPU := Lib.hid (byteCells_push l c)
  clear HC hb hp hr
  generalize hrr : c.toNat = r at *
  clear hrr
  go_enter Tryz.func222, Tryz.ntmps222
  go_wp2_with fail
  refine HCH.out.mono ?_
  rintro e w1 ⟨rfl, hb1, hr1, hf1⟩
  have c1 : w1.cell? ⟨b, 1, none⟩ = some (.slice A l.length cc) := hb1.cell 1
  have HB1 := Lib.hid hb1
  have HR1 := Lib.hid hr1
  have HF1 := Lib.hid (hf1.mono (T := fun j => B ≤ j) (fun j _ e => by omega))
  have hsz1 := hf1.size
  have hbl1 := hb1.lt
  clear hb1 hr1 hf1
  go_wp2_with (at_builtin; refine wpList_append_own _ rfl _ _ 86 rfl B 5 i5 _ 1 1 Tryz.underlying86 hi5 hz50 hz51 hz52 rfl (by decide) (.slice A l.length cc) l.length (Lib.byteCells l) (by rfl) (HR1.out.alloc _) ⟨w1.heap.size, 0, none⟩ 1 1 [.int .u8 (r : Int)] (by rfl) rfl (World.news_of_block (heap_alloc_new w1 _)) (by intro u hu; rw [List.mem_singleton] at hu; rw [hu]; rfl) (by unfold maxLen; omega) (by omega) (by simp; omega) ?_; intro v7 w7 hown7 hgr7 _; obtain ⟨A7, c7, hv7⟩ := row_shape hown7; subst hv7; have F7 := (show Fr (fun j => (Value.slice A l.length cc).ownBlock = some j) w1 w7 from ((Fr.refl _ w1).alloc _).trans (Fr.of_grown hgr7) (fun _ _ h => h)); have hb7 := HB1.out.fr F7 (own_blk_ne HR1.out HB1.out (by decide)); have c7b : w7.cell? ⟨b, 1, none⟩ = some (.slice A l.length cc) := hb7.cell 1; have f7b := hb7.frozen 1; have l7b := hb7.lt; have HOWN7 := Lib.hid hown7; have HF7 := Lib.hid F7; have HB7 := Lib.hid hb7; clear hown7 hgr7 F7 hb7)
  have FS : Fr (fun j => j = b) w7 (w7.setCell ⟨b, 1, none⟩ (.slice A7 (l.length + 1) c7)) := (Fr.refl (fun j => j = b) w7).setCell ⟨b, 1, none⟩ (fun _ => rfl) _
  go_ret
  refine ⟨rfl, ⟨.pointer (some ⟨b, 0, none⟩), .slice A7 (l.length + 1) c7, HB7.out.set_ 1 (.slice A7 (l.length + 1) c7), .inr rfl, ?_, hBb⟩, (HF1.out.trans HF7.out (fun j _ e => (HR1.out.lt j e).1)).trans FS (fun j _ e => by omega)⟩
  rw [List.length_append, HPU.out]
  exact ownsRow_fr HOWN7.out FS (fun j hj e => own_blk_ne HOWN7.out HB7.out (by decide) (by rw [hj, e]))

set_option maxRecDepth 100000 in
set_option maxHeartbeats 4000000 in
theorem wrune_it (B b : Nat) (l : List UInt8) (c : UInt8) (w : World) (hc : c.toNat < 128) (hl : l.length ≤ 10000) (hB : B ≤ w.heap.size) (h : Bu w B b l) :
    Calls Tryz.prog 223 #[.pointer (some ⟨b, 0, none⟩), .int .i32 (c.toNat : Int)] w fun e w' => (∃ k : Int, e = .returned (.tuple #[.int .i64 k, .nilIface])) ∧ Bu w' B b (l ++ [c]) ∧ Fr (fun j => B ≤ j) w w' ∧ ∀ g s q, ItAt w g s q → ItAt w' g s q := by
  obtain ⟨p, v, hb, hp, hr, hBb⟩ := h
  have HC : Calls Tryz.prog 224 #[.pointer (some ⟨b, 0, none⟩)] w fun e w' => e = .returned (.tuple #[]) ∧ Blk w' b 263 #[.pointer (some ⟨b, 0, none⟩), v] ∧ w'.ownsRow B 5 1 v l.length (Lib.byteCells l) ∧ Fr (fun j => j = b) w w' := by
    rcases hp with rfl | rfl
    · refine (copy_fresh b v w hb).mono ?_
      rintro e w' ⟨rfl, rfl⟩
      have FS : Fr (fun j => j = b) w (w.setCell ⟨b, 0, none⟩ (.pointer (some ⟨b, 0, none⟩))) := (Fr.refl (fun j => j = b) w).setCell ⟨b, 0, none⟩ (fun _ => rfl) _
      exact ⟨rfl, hb.set_ 0 (.pointer (some ⟨b, 0, none⟩)), ownsRow_fr hr FS (fun j hj e => own_blk_ne hr hb (by decide) (by rw [hj, e])), FS⟩
    · refine (copy_used b v w hb).mono ?_
      rintro e w' ⟨rfl, rfl⟩
      exact ⟨rfl, hb, hr, Fr.refl _ _⟩
  obtain ⟨A, cc, hv⟩ := row_shape hr
  subst hv
  have HIB := Lib.hid (show w.heap[b]? = some (.cells #[p, .slice A l.length cc] 263) from hb)
  have HCH := Lib.hid HC
  have HA := Lib.hid (fun w1 h1 h2 => arune_any B (.slice A l.length cc) l c w1 hc hl h1 h2)
  clear HC hb hp hr
  generalize hrr : c.toNat = r at *
  clear hrr
  go_enter Tryz.func223, Tryz.ntmps223
  go_wp2_with fail
  refine HCH.out.mono ?_
  rintro e w1 ⟨rfl, hb1, hr1, hf1⟩
  have c1 : w1.cell? ⟨b, 1, none⟩ = some (.slice A l.length cc) := hb1.cell 1
  have HAA := Lib.hid (HA.out w1 (Nat.le_trans hB hf1.size) hr1)
  have HB1 := Lib.hid hb1
  have HR1 := Lib.hid hr1
  have HI1 := Lib.hid (show ∀ g s q, ItAt w g s q → ItAt w1 g s q from fun g s q hi => hi.fr hf1 (fun e => by
    subst e
    exact absurd ((HIB.out).symm.trans hi) (by simp)))
  have HF1 := Lib.hid (hf1.mono (T := fun j => B ≤ j) (fun j _ e => by omega))
  clear hb1 hr1 hf1
  go_wp2_with fail
  refine HAA.out.mono ?_
  rintro e w2 ⟨v', rfl, hr2, hf2⟩
  obtain ⟨A2, d2, hv2⟩ := row_shape hr2
  subst hv2
  have hb2 := HB1.out.fr hf2 (own_blk_ne HR1.out HB1.out (by decide))
  have c2 : w2.cell? ⟨b, 1, none⟩ = some (.slice A l.length cc) := hb2.cell 1
  have f2 := hb2.frozen 1
  have hl2 := hb2.lt
  have FS : Fr (fun j => j = b) w2 (w2.setCell ⟨b, 1, none⟩ (.slice A2 (l.length + 1) d2)) := (Fr.refl (fun j => j = b) w2).setCell ⟨b, 1, none⟩ (fun _ => rfl) _
  have HBU := Lib.hid (show Bu (w2.setCell ⟨b, 1, none⟩ (.slice A2 (l.length + 1) d2)) B b (l ++ [c]) from ⟨.pointer (some ⟨b, 0, none⟩), .slice A2 (l.length + 1) d2, hb2.set_ 1 (.slice A2 (l.length + 1) d2), .inr rfl, by
    rw [List.length_append]
    exact ownsRow_fr hr2 FS (fun j hj e => own_blk_ne hr2 hb2 (by decide) (by rw [hj, e])), hBb⟩)
  have HF2 := Lib.hid ((HF1.out.trans hf2 (fun j _ e => (HR1.out.lt j e).1)).trans FS (fun j _ e => by omega))
  have c3 : (w2.setCell ⟨b, 1, none⟩ (.slice A2 (l.length + 1) d2)).cell? ⟨b, 1, none⟩ = some (.slice A2 (l.length + 1) d2) := (hb2.set_ 1 (.slice A2 (l.length + 1) d2)).cell 1
  have HI2 := Lib.hid (show ∀ g s q, ItAt w g s q → ItAt (w2.setCell ⟨b, 1, none⟩ (.slice A2 (l.length + 1) d2)) g s q from fun g s q hi => by
    have h1 := HI1.out g s q hi
    have h2 : ItAt w2 g s q := h1.fr hf2 (fun e => by
      rcases HR1.out.2 with ⟨h0, _⟩ | ⟨gg, cap, cur, hv, _, hh, _⟩
      · rw [h0] at e; cases e
      · rw [hv] at e
        injection e with e
        subst e
        rw [show w1.heap[gg]? = some (.stringIter s q) from h1] at hh
        cases hh)
    exact h2.fr FS (fun e => by
      subst e
      exact absurd ((show w2.heap[g]? = some (.cells #[.pointer (some ⟨g, 0, none⟩), .slice A l.length cc] 263) from hb2).symm.trans h2) (by simp)))
  clear hb2 hr2 hf2 FS
  go_wp2_with fail
  go_ret2
  exact ⟨⟨_, rfl⟩, HBU.out, HF2.out, HI2.out⟩

/-- The letters behind a backslash, as the program keeps them. -/
def Es (w : World) : Prop := Blk w 1 312 #[.int .i32 116, .int .i32 9, .int .i32 110, .int .i32 10, .int .i32 114, .int .i32 13, .int .i32 98, .int .i32 8, .int .i32 102, .int .i32 12, .int .i32 34, .int .i32 34, .int .i32 92, .int .i32 92, .int .i32 39, .int .i32 39]
theorem Es.frF {w w' : World} (h : Es w) (hf : Fr (fun _ => False) w w') : Es w' := Blk.fr h hf (fun h => h)
theorem Es.frN {w w' : World} {n : Nat} (h : Es w) (hn : 1 < n) (hf : Fr (fun j => n ≤ j) w w') : Es w' := Blk.fr h hf (fun h => by omega)
theorem digit_cls : ∀ n : Nat, n < 58 → 48 ≤ n → clsOf (n : Int) = 2 := by decide +kernel

set_option maxRecDepth 100000 in
set_option maxHeartbeats 40000000 in
/-- A digit, quoted. -/
theorem quote_digit (d : UInt8) (w : World) (h1 : 48 ≤ d.toNat) (h2 : d.toNat ≤ 57) (hes : Es w) (hw : 1 < w.heap.size) :
    Calls Tryz.prog 173 #[.string ⟨#[d]⟩] w fun e w' => e = .returned (.string ⟨#[34, d, 34]⟩) ∧ Fr (fun _ => False) w w' := by
  have hb0 := Blk.new w 263 #[.pointer none, .slice none 0 0]
  have HBU := Lib.hid (show Bu (w.alloc (.cells #[.pointer none, .slice none 0 0] 263)) w.heap.size w.heap.size [] from ⟨_, _, hb0, .inl rfl, World.ownsRow_nil _ _ _ _, Nat.le_refl _⟩)
  have HF := Lib.hid ((Fr.refl (fun _ => False) w).alloc (.cells #[.pointer none, .slice none 0 0] 263))
  have HES := Lib.hid (hes.frF ((Fr.refl (fun _ => False) w).alloc (.cells #[.pointer none, .slice none 0 0] 263)))
  have HWB := Lib.hid (fun l w1 hl hB h => wbyte_any w.heap.size w.heap.size l 34 w1 hl hB h)
  rw [show (((34 : UInt8).toNat : Nat) : Int) = 34 from rfl] at HWB
  have HWR := Lib.hid (fun l w1 hl hB h => wrune_it w.heap.size w.heap.size l d w1 (by omega) hl hB h)
  have HCL := Lib.hid (fun w1 => cls_any (d.toNat : Int) w1 (.inr (by unfold Lib.validRune; simp; omega)))
  rw [digit_cls d.toNat (by omega) h1] at HCL
  have HST := Lib.hid (fun l w1 hl h => bstring_any w.heap.size w.heap.size l w1 hl h)
  have hes0 := Lib.hid hes
  clear hb0 hes
  go_enter Tryz.func173, Tryz.ntmps173
  go_wp2_with fail
  go_step3
  go_wp2_with fail
  refine (HWB.out [] _ (by decide) (by simp) HBU.out).mono ?_
  rintro e w1 ⟨rfl, hb1, hf1⟩
  have HB1 := Lib.hid hb1
  have HF1 := Lib.hid ((HF.out.mono (T := fun j => w.heap.size ≤ j) (fun _ _ h => h.elim)).trans' hf1)
  clear hb1 hf1
  go_wp2_with fail
  go_step3
  go_wp2_with fail
  have HB2 := Lib.hid (show Bu (w1.iter ⟨#[d]⟩ 0) w.heap.size w.heap.size [34] from HB1.out.frF ((Fr.refl _ _).alloc _))
  have HF2 := Lib.hid (HF1.out.trans ((Fr.refl (fun _ => False) w1).alloc (.stringIter ⟨#[d]⟩ 0)) (fun _ _ h => h.elim))
  have hsz1 : w.heap.size < w1.heap.size := by
    obtain ⟨_, _, hb, _⟩ := HB1.out
    exact hb.lt
  go_loopg [5] (1) (fun g nv wr => ∃ q : Nat, 1 ≤ q + g ∧ q ≤ 1 ∧ ItAt wr w1.heap.size ⟨#[d]⟩ q ∧ Bu wr w.heap.size w.heap.size (if q = 0 then [34] else [34, d]) ∧ Fr (fun j => w.heap.size ≤ j) w wr)
  case atStart => exact ⟨0, by omega, by omega, ItAt.new w1 ⟨#[d]⟩ 0, HB2.out, HF2.out⟩
  case round =>
    obtain ⟨q, hg, hq, hit, hbu, hf⟩ := hrel
    by_cases hp : q < 1
    · obtain rfl : q = 0 := by omega
      have hnx := run_next_it hit (show 0 < (⟨#[d]⟩ : ByteArray).size from Nat.zero_lt_one)
      rw [decode_ascii ⟨#[d]⟩ 0 Nat.zero_lt_one (show d.toNat < 128 by omega)] at hnx
      rw [show ((⟨#[d]⟩ : ByteArray)[0]'Nat.zero_lt_one).toNat = d.toNat from rfl] at hnx
      have hit2 := hit.set 1
      have FI := hit.frS 1
      have hf2 : Fr (fun j => w.heap.size ≤ j) w (World.itSet wr w1.heap.size ⟨#[d]⟩ 1) := hf.trans FI (fun i hi e => by omega)
      have hbu2 : Bu (World.itSet wr w1.heap.size ⟨#[d]⟩ 1) w.heap.size w.heap.size [34] := by
        obtain ⟨p, v, hb, hpp, hr, hB⟩ := hbu
        refine ⟨p, v, hb.fr FI (fun e => by omega), hpp, ownsRow_fr hr FI (fun j hj e => ?_), hB⟩
        subst e
        rcases hr.2 with ⟨h0, _⟩ | ⟨gg, cap, cur, hv, _, hh, _⟩
        · rw [h0] at hj; cases hj
        · rw [hv] at hj
          injection hj with hj
          subst hj
          rw [show wr.heap[w1.heap.size]? = some (.stringIter ⟨#[d]⟩ 0) from hit] at hh
          cases hh
      have HIT := Lib.hid hit2
      have HBQ := Lib.hid hbu2
      have HFQ := Lib.hid hf2
      have HEQ := Lib.hid (hes0.out.frN hw hf2)
      generalize World.itSet wr w1.heap.size ⟨#[d]⟩ 1 = w2 at *
      clear hit hf hit2 hf2 hbu hbu2 FI
      have hwl := HFQ.out.size
      obtain ⟨dn, hdn⟩ : ∃ dn, dn = d.toNat := ⟨_, rfl⟩
      rw [← hdn] at hnx HCL HWR h1 h2
      clear hdn
      go_wp2_with fail
      go_loopw [17] (fun iv wr => ∃ k : Nat, iv = .int .i64 (k : Int) ∧ k ≤ 7 ∧ Fr (fun _ => False) w2 wr) (fun iv _ => 7 - (intOf iv).toNat)
      case atStart => exact ⟨0, rfl, by omega, Fr.refl _ _⟩
      case round =>
        obtain ⟨k, rfl, hk, hfr⟩ := hrel
        have hes := HEQ.out.frF hfr
        have hel := Blk.lt hes
        have HFK := Lib.hid hfr
        clear hfr
        have hk8 : k = 0 ∨ k = 1 ∨ k = 2 ∨ k = 3 ∨ k = 4 ∨ k = 5 ∨ k = 6 ∨ k = 7 := by omega
        clear hk
        rcases hk8 with rfl | rfl | rfl | rfl | rfl | rfl | rfl | rfl
        · have e0 : wr.cell? ⟨1, 0, none⟩ = some (.int .i32 116) := hes.cell 0
          have e1 : wr.cell? ⟨1, 1, none⟩ = some (.int .i32 9) := hes.cell 1
          have hd : ((9 : Int) == (dn : Int)) = false := beq_eq_false_iff_ne.2 (by omega)
          clear hes
          go_wp2_with fail
          go_roundw
          case rel => exact ⟨1, rfl, by omega, HFK.out.alloc _⟩
          case measure => simp only [intOf]; omega
        · have e0 : wr.cell? ⟨1, 2, none⟩ = some (.int .i32 110) := hes.cell 2
          have e1 : wr.cell? ⟨1, 3, none⟩ = some (.int .i32 10) := hes.cell 3
          have hd : ((10 : Int) == (dn : Int)) = false := beq_eq_false_iff_ne.2 (by omega)
          clear hes
          go_wp2_with fail
          go_roundw
          case rel => exact ⟨2, rfl, by omega, HFK.out.alloc _⟩
          case measure => simp only [intOf]; omega
        · have e0 : wr.cell? ⟨1, 4, none⟩ = some (.int .i32 114) := hes.cell 4
          have e1 : wr.cell? ⟨1, 5, none⟩ = some (.int .i32 13) := hes.cell 5
          have hd : ((13 : Int) == (dn : Int)) = false := beq_eq_false_iff_ne.2 (by omega)
          clear hes
          go_wp2_with fail
          go_roundw
          case rel => exact ⟨3, rfl, by omega, HFK.out.alloc _⟩
          case measure => simp only [intOf]; omega
        · have e0 : wr.cell? ⟨1, 6, none⟩ = some (.int .i32 98) := hes.cell 6
          have e1 : wr.cell? ⟨1, 7, none⟩ = some (.int .i32 8) := hes.cell 7
          have hd : ((8 : Int) == (dn : Int)) = false := beq_eq_false_iff_ne.2 (by omega)
          clear hes
          go_wp2_with fail
          go_roundw
          case rel => exact ⟨4, rfl, by omega, HFK.out.alloc _⟩
          case measure => simp only [intOf]; omega
        · have e0 : wr.cell? ⟨1, 8, none⟩ = some (.int .i32 102) := hes.cell 8
          have e1 : wr.cell? ⟨1, 9, none⟩ = some (.int .i32 12) := hes.cell 9
          have hd : ((12 : Int) == (dn : Int)) = false := beq_eq_false_iff_ne.2 (by omega)
          clear hes
          go_wp2_with fail
          go_roundw
          case rel => exact ⟨5, rfl, by omega, HFK.out.alloc _⟩
          case measure => simp only [intOf]; omega
        · have e0 : wr.cell? ⟨1, 10, none⟩ = some (.int .i32 34) := hes.cell 10
          have e1 : wr.cell? ⟨1, 11, none⟩ = some (.int .i32 34) := hes.cell 11
          have hd : ((34 : Int) == (dn : Int)) = false := beq_eq_false_iff_ne.2 (by omega)
          clear hes
          go_wp2_with fail
          go_roundw
          case rel => exact ⟨6, rfl, by omega, HFK.out.alloc _⟩
          case measure => simp only [intOf]; omega
        · have e0 : wr.cell? ⟨1, 12, none⟩ = some (.int .i32 92) := hes.cell 12
          have e1 : wr.cell? ⟨1, 13, none⟩ = some (.int .i32 92) := hes.cell 13
          have hd : ((92 : Int) == (dn : Int)) = false := beq_eq_false_iff_ne.2 (by omega)
          clear hes
          go_wp2_with fail
          go_roundw
          case rel => exact ⟨7, rfl, by omega, HFK.out.alloc _⟩
          case measure => simp only [intOf]; omega
        · clear hes
          go_wp2_with fail
          refine (HCL.out _).mono ?_
          rintro e w4 ⟨rfl, rfl⟩
          go_wp2_with fail
          refine (HWR.out [34] wr (by decide) (by have := HFK.out.size; omega) (HBQ.out.frF HFK.out)).mono ?_
          rintro e w5 ⟨⟨kk, rfl⟩, hb5, hf5, hit5⟩
          have HB5 := Lib.hid hb5
          have HF5 := Lib.hid ((HFQ.out.trans HFK.out (fun _ _ h => h.elim)).trans' hf5)
          have HI5 := Lib.hid (hit5 _ _ _ (HIT.out.fr HFK.out (fun h => h)))
          clear hb5 hf5 hit5
          go_wp2_with fail
          go_roundg (0)
          case measure => omega
          case rel => exact ⟨1, by omega, by omega, HI5.out, HB5.out, HF5.out⟩
    · obtain rfl : q = 1 := by omega
      have hnx := run_next_it_end hit (show ¬ 1 < (⟨#[d]⟩ : ByteArray).size from Nat.lt_irrefl 1)
      have HBQ := Lib.hid (show Bu wr w.heap.size w.heap.size [34, d] from hbu)
      have HFQ := Lib.hid hf
      clear hit hbu hf
      go_wp2_with fail
      refine (HWB.out [34, d] wr (by simp) (by have := HFQ.out.size; omega) HBQ.out).mono ?_
      rintro e w5 ⟨rfl, hb5, hf5⟩
      have HB5 := Lib.hid hb5
      have HF5 := Lib.hid (HFQ.out.trans' hf5)
      clear hb5 hf5
      go_wp2_with fail
      refine (HST.out _ _ (by simp) HB5.out).mono ?_
      rintro e w6 ⟨rfl, hf6⟩
      have HF6 := Lib.hid (HF5.out.trans' hf6)
      clear hf6
      go_wp2_with fail
      unfold Exit.noGoto
      go_ret
      exact ⟨rfl, HF6.out.shut (Nat.le_refl _)⟩

theorem as_ib2 (x : Value) (w : World) : (Instr.typeAssert (.iface 78 x) 35 198 true).run Tryz.prog w = .ok (.tuple #[.agg #[.string ⟨#[]⟩], .bool false]) w := by kernel_rfl
theorem as_bb2 (x : Value) (w : World) : (Instr.typeAssert (.iface 78 x) 35 196 true).run Tryz.prog w = .ok (.tuple #[.agg #[.string ⟨#[]⟩], .bool false]) w := by kernel_rfl
theorem as_ll2 (x : Value) (w : World) : (Instr.typeAssert (.iface 78 x) 35 78 true).run Tryz.prog w = .ok (.tuple #[x, .bool true]) w := by kernel_rfl
attribute [local go_sem] as_ib2 as_bb2 as_ll2

/-- A digit, as an integer's text. -/
def digT (d : UInt8) : ByteArray := ⟨#[34, d, 34]⟩ ++ ⟨#[94, 94, 60]⟩ ++ xInt ++ ⟨#[62]⟩

set_option maxRecDepth 100000 in
set_option maxHeartbeats 40000000 in
theorem nttext_digit (d : UInt8) (w : World) (h1 : 48 ≤ d.toNat) (h2 : d.toNat ≤ 57) (hes : Es w) (hw : 1 < w.heap.size) :
    Calls Tryz.prog 133 #[(Tm.lit ⟨#[d]⟩ xInt ⟨#[]⟩).val] w fun e w' => e = .returned (.string (digT d)) ∧ Fr (fun _ => False) w w' := by
  unfold Tm.val digT
  have HQ := Lib.hid (fun w1 he hw => quote_digit d w1 h1 h2 he hw)
  have HES := Lib.hid hes
  clear hes
  unfold xInt
  have hb := Blk.new w 78 #[.string ⟨#[d]⟩, .string ⟨#[104, 116, 116, 112, 58, 47, 47, 119, 119, 119, 46, 119, 51, 46, 111, 114, 103, 47, 50, 48, 48, 49, 47, 88, 77, 76, 83, 99, 104, 101, 109, 97, 35, 105, 110, 116, 101, 103, 101, 114]⟩, .string ⟨#[]⟩]
  have hf : Fr (fun _ => False) w (w.alloc (.cells #[.string ⟨#[d]⟩, .string ⟨#[104, 116, 116, 112, 58, 47, 47, 119, 119, 119, 46, 119, 51, 46, 111, 114, 103, 47, 50, 48, 48, 49, 47, 88, 77, 76, 83, 99, 104, 101, 109, 97, 35, 105, 110, 116, 101, 103, 101, 114]⟩, .string ⟨#[]⟩] 78)) := (Fr.refl _ _).alloc _
  have HF := Lib.hid hf
  have HE1 := Lib.hid (HES.out.frF hf)
  have HCK := Lib.hid (fun w' (h : Fr (fun _ => False) (w.alloc (.cells #[.string ⟨#[d]⟩, .string ⟨#[104, 116, 116, 112, 58, 47, 47, 119, 119, 119, 46, 119, 51, 46, 111, 114, 103, 47, 50, 48, 48, 49, 47, 88, 77, 76, 83, 99, 104, 101, 109, 97, 35, 105, 110, 116, 101, 103, 101, 114]⟩, .string ⟨#[]⟩] 78)) w') => show w'.cell? ⟨w.heap.size, 0, none⟩ = some (.string ⟨#[d]⟩) ∧ w'.cell? ⟨w.heap.size, 1, none⟩ = some (.string ⟨#[104, 116, 116, 112, 58, 47, 47, 119, 119, 119, 46, 119, 51, 46, 111, 114, 103, 47, 50, 48, 48, 49, 47, 88, 77, 76, 83, 99, 104, 101, 109, 97, 35, 105, 110, 116, 101, 103, 101, 114]⟩) from ⟨(hb.fr h (fun h => h)).cell 0, (hb.fr h (fun h => h)).cell 1⟩)
  have HW := Lib.hid (show 1 < (w.alloc (.cells #[.string ⟨#[d]⟩, .string ⟨#[104, 116, 116, 112, 58, 47, 47, 119, 119, 119, 46, 119, 51, 46, 111, 114, 103, 47, 50, 48, 48, 49, 47, 88, 77, 76, 83, 99, 104, 101, 109, 97, 35, 105, 110, 116, 101, 103, 101, 114]⟩, .string ⟨#[]⟩] 78)).heap.size by simp; omega)
  clear hb hf
  go_enter Tryz.func133, Tryz.ntmps133
  go_wp2_with fail
  generalize w.alloc (.cells #[.string ⟨#[d]⟩, .string ⟨#[104, 116, 116, 112, 58, 47, 47, 119, 119, 119, 46, 119, 51, 46, 111, 114, 103, 47, 50, 48, 48, 49, 47, 88, 77, 76, 83, 99, 104, 101, 109, 97, 35, 105, 110, 116, 101, 103, 101, 114]⟩, .string ⟨#[]⟩] 78) = w1 at *
  go_region_held3 (fun wy => wy.cell? ⟨w.heap.size, 0, none⟩ = some (.string ⟨#[d]⟩) ∧ wy.cell? ⟨w.heap.size, 1, none⟩ = some (.string ⟨#[104, 116, 116, 112, 58, 47, 47, 119, 119, 119, 46, 119, 51, 46, 111, 114, 103, 47, 50, 48, 48, 49, 47, 88, 77, 76, 83, 99, 104, 101, 109, 97, 35, 105, 110, 116, 101, 103, 101, 114]⟩))
    (first | exact HCK.out _ F2 | exact HCK.out _ (Fr.refl (fun _ => False) w1).drew)
    ((go_at_call 173; refine (HQ.out _ (HE1.out.frF (Fr.refl (fun _ => False) w1).drew) HW.out).mono ?_; rintro e w2 ⟨rfl, hf2⟩; have F2 : Fr (fun _ => False) w1 w2 := ((Fr.refl (fun _ => False) w1).drew).trans' hf2))
  all_goals
    go_wp2_with fail
    go_ret
    exact ⟨rfl, HF.out.trans' F2⟩

set_option maxRecDepth 100000 in
set_option maxHeartbeats 4000000 in
theorem join_one (g c : Nat) (s sep : ByteArray) (w : World) (hc : w.cell? ⟨g, 0, none⟩ = some (.string s)) : Calls Tryz.prog 134 #[.slice (some ⟨g, 0, none⟩) 1 c, .string sep] w fun e w' => e = .returned (.string s) ∧ w = w' := by
  go_enter Tryz.func134, Tryz.ntmps134
  go_wp2_with fail
  go_ret
  exact ⟨rfl, rfl⟩

set_option maxRecDepth 100000 in
set_option maxHeartbeats 40000000 in
/-- The line of a row of one var that stands for a digit. -/
theorem line_one (v : ByteArray) (d : UInt8) (nc vc rn rc xc B1 B2 B3 Bd b r : Nat) (x : Int) (N V R X : Option Addr) (vt : Value) (ts : List Tm) (room : Int) (w : World) (h1 : 48 ≤ d.toNat) (h2 : d.toNat ≤ 57) (hes : Es w) (hw : 1 < w.heap.size) (hlen : ts.length ≤ 1000)
    (hv : IsVar [v] v 0 true) (hterm : termN ts x = some (.lit ⟨#[d]⟩ xInt ⟨#[]⟩))
    (hN : w.ownsRow B1 9 1 (.slice N 1 nc) 1 [.string v]) (hV : w.ownsRow B2 9 1 (.slice V 1 vc) 1 [.string v]) (hX : IntRow w B3 (.slice X 1 xc) [x]) (hd : IsDict w Bd b r vt ts room) :
    Calls Tryz.prog 78 #[.slice N 1 nc, .agg #[.slice V 1 vc, .slice R rn rc], .slice X 1 xc, .pointer (some ⟨b, 0, none⟩)] w fun e w' => e = .returned (.string (digT d)) ∧ Fr (fun _ => False) w w' := by
  obtain ⟨i9, hi9, hz90, hz91, hz92⟩ := info_parts info9
  have hf0 : Fr (fun _ => False) w (w.alloc (.cells #[.slice V 1 vc, .slice R rn rc] 63)) := (Fr.refl _ _).alloc _
  obtain ⟨ng, rfl, _, _, _⟩ := row_form hN (by decide)
  have HVA := Lib.hid (value_any 1 vc B2 B3 0 V (.slice R rn rc) [v] v true (.slice X 1 xc) [x] _ (by decide) hv rfl (ownsRow_fr hV hf0 (fun _ _ h => h)) (hX.fr hf0 (fun _ _ h => h)))
  rw [show valN 0 true [x] = x from rfl] at HVA
  have HTE := Lib.hid (fun w1 h1 => term_any Bd b r vt ts room x w1 h1 (by omega))
  rw [hterm] at HTE
  have HNT := Lib.hid (fun w1 he hw => nttext_digit d w1 h1 h2 he hw)
  have HJ := Lib.hid (fun g c w hc => join_one g c (digT d) ⟨#[32]⟩ w hc)
  have HD := Lib.hid (hd.frF hf0)
  have HNN := Lib.hid (ownsRow_fr hN hf0 (fun _ _ h => h))
  have HES := Lib.hid (hes.frF hf0)
  have HF := Lib.hid hf0
  have HT0 := Lib.hid (Blk.new w 63 #[.slice V 1 vc, .slice R rn rc])
  generalize digT d = T at *
  unfold termV termE Tm.val at HTE
  unfold Tm.val at HNT
  simp only at HTE
  generalize (⟨#[d]⟩ : ByteArray) = dd at *
  generalize xInt = xi at *
  have HX := Lib.hid hw
  clear hN hV hX hd hes hf0 hv hterm hw
  go_enter Tryz.func78, Tryz.ntmps78
  go_wp2_with fail
  have hszw : w.heap.size < (w.alloc (.cells #[.slice V 1 vc, .slice R rn rc] 63)).heap.size := by simp
  generalize w.alloc (.cells #[.slice V 1 vc, .slice R rn rc] 63) = w1 at *
  go_loopw [9, 16] (fun ov iv wr => (ov = .slice none 0 0 ∧ iv = .int .i64 0 ∧ w1 = wr) ∨ (∃ g c, ov = .slice (some ⟨g, 0, none⟩) 1 c ∧ iv = .int .i64 1 ∧ wr.cell? ⟨g, 0, none⟩ = some (.string T) ∧ Fr (fun _ => False) w wr)) (fun _ iv _ => 1 - (intOf iv).toNat)
  case atStart => exact .inl ⟨rfl, rfl, rfl⟩
  case round =>
    rcases hrel with ⟨rfl, rfl, rfl⟩ | ⟨g, c, rfl, rfl, hc, hfr⟩
    · have n0 : w1.cell? ⟨ng, 0, none⟩ = some (.string v) := World.ownsRow.cellAt HNN.out 0 (by decide)
      have t0 : w1.cell? ⟨w.heap.size, 0, none⟩ = some (.slice V 1 vc) := HT0.out.cell 0
      have t1 : w1.cell? ⟨w.heap.size, 1, none⟩ = some (.slice R rn rc) := HT0.out.cell 1
      go_wp2_with fail
      refine HVA.out.mono ?_
      rintro e w2 ⟨rfl, hf2⟩
      have HD2 := Lib.hid (HD.out.frF hf2)
      have HF2 := Lib.hid (HF.out.trans' hf2)
      have HE2 := Lib.hid (HES.out.frF hf2)
      clear hf2 n0 t0 t1
      go_wp2_with fail
      refine (HTE.out _ HD2.out).mono ?_
      rintro e w3 ⟨rfl, rfl⟩
      go_wp2_with fail
      refine (HNT.out _ HE2.out (Nat.lt_of_lt_of_le HX.out HF2.out.size)).mono ?_
      rintro e w4 ⟨rfl, hf4⟩
      have HF4 := Lib.hid (HF2.out.trans' hf4)
      have hsz4 := HF4.out.size
      clear hf4
      go_wp2_with (at_builtin; refine wpList_append_own _ rfl _ _ 28 rfl w.heap.size 9 i9 _ 1 16 Tryz.underlying28 hi9 hz90 hz91 hz92 rfl (by decide) (.slice none 0 0) 0 [] (by rfl) (World.ownsRow_nil _ _ _ _) ⟨w4.heap.size, 0, none⟩ 1 1 [.string T] (by rfl) rfl (World.news_of_block (heap_alloc_new w4 _)) (by intro u hu; rw [List.mem_singleton] at hu; rw [hu]; rfl) (by unfold maxLen; omega) (by omega) (by simp; omega) ?_; intro v7 w7 hown7 hgr7 _; obtain ⟨A7, c7, hv7⟩ := row_shape hown7; subst hv7; have HOWN7 := Lib.hid hown7; have HGR7 := Lib.hid hgr7; clear hown7 hgr7)
      have HF7 := Lib.hid (show Fr (fun _ => False) w w7 from HF4.out.trans (((Fr.refl (fun _ => False) w4).alloc _).trans (Fr.of_grown HGR7.out) (fun j _ e => by cases e)) (fun _ _ h => h))
      obtain ⟨g7, hA7, _, _, _⟩ := row_form HOWN7.out (by decide)
      subst hA7
      have HC7 := Lib.hid (show w7.cell? ⟨g7, 0, none⟩ = some (.string T) from World.ownsRow.cellAt HOWN7.out 0 (by decide))
      clear HGR7 HOWN7
      go_roundw
      case rel => exact .inr ⟨g7, c7, rfl, rfl, HC7.out, HF7.out⟩
      case measure => simp [intOf]
    · have HFR := Lib.hid hfr
      have HJJ := Lib.hid (HJ.out g c wr hc)
      clear hc hfr
      go_wp2_with fail
      refine HJJ.out.mono ?_
      rintro e w5 ⟨rfl, rfl⟩
      go_wp2_with fail
      go_ret
      exact ⟨rfl, HFR.out⟩

set_option maxRecDepth 100000 in
set_option maxHeartbeats 40000000 in
/-- The lines of a table of one row. -/
theorem lines_one (v : ByteArray) (d : UInt8) (nc vc rc B1 B2 B3 Bd b r : Nat) (x : Int) (N V R : Option Addr) (vals : List Value) (vt : Value) (ts : List Tm) (room : Int) (w : World) (h1 : 48 ≤ d.toNat) (h2 : d.toNat ≤ 57) (hes : Es w) (hw : 1 < w.heap.size) (hlen : ts.length ≤ 1000)
    (hv : IsVar [v] v 0 true) (hterm : termN ts x = some (.lit ⟨#[d]⟩ xInt ⟨#[]⟩))
    (hN : w.ownsRow B1 9 1 (.slice N 1 nc) 1 [.string v]) (hV : w.ownsRow B2 9 1 (.slice V 1 vc) 1 [.string v]) (hR : RowsAt w B3 (.slice R 1 rc) vals [[x]]) (hd : IsDict w Bd b r vt ts room) :
    Calls Tryz.prog 29 #[.slice N 1 nc, .agg #[.slice V 1 vc, .slice R 1 rc], .pointer (some ⟨b, 0, none⟩)] w (NamesPost w 1 [digT d]) := by
  obtain ⟨i9, hi9, hz90, hz91, hz92⟩ := info_parts info9
  have hf0 : Fr (fun _ => False) w (w.alloc (.cells #[.slice V 1 vc, .slice R 1 rc] 63)) := (Fr.refl _ _).alloc _
  obtain ⟨rg, rfl, _, _, _⟩ := row_form hR.own (by decide)
  have hR1 := hR.frF hf0
  obtain ⟨XA, xc, hxv⟩ := row_shape (hR1.each 0 Nat.zero_lt_one)
  have hx0 : IntRow (w.alloc (.cells #[.slice V 1 vc, .slice (some ⟨rg, 0, none⟩) 1 rc] 63)) B3 (.slice XA 1 xc) [x] := by have h := hR1.each 0 Nat.zero_lt_one; rw [hxv] at h; exact h
  have ck : (w.alloc (.cells #[.slice V 1 vc, .slice (some ⟨rg, 0, none⟩) 1 rc] 63)).cell? ⟨rg, 0, none⟩ = some (.slice XA 1 xc) := by
    have h := World.ownsRow.cellAt hR1.own 0 (by decide)
    rw [h]
    have hl := hR1.len
    rw [List.getD_eq_getElem?_getD] at hxv
    rw [List.getElem?_eq_getElem (by rw [hl]; exact Nat.zero_lt_one)] at hxv ⊢
    exact congrArg some hxv
  have HLI := Lib.hid (line_one v d nc vc 1 rc xc B1 B2 B3 Bd b r x N V (some ⟨rg, 0, none⟩) XA vt ts room _ h1 h2 (hes.frF hf0) (by simp; omega) hlen hv hterm (ownsRow_fr hN hf0 (fun _ _ h => h)) (ownsRow_fr hV hf0 (fun _ _ h => h)) hx0 (hd.frF hf0))
  have HF := Lib.hid hf0
  have HSO := Lib.hid (fun g c w hc => sort_any g 1 c [digT d] w (by decide) hc (fun j hj => absurd hj (by omega)))
  unfold NamesPost
  generalize digT d = T at *
  have HT0 := Lib.hid (Blk.new w 63 #[.slice V 1 vc, .slice (some ⟨rg, 0, none⟩) 1 rc])
  have HCK := Lib.hid ck
  clear hN hV hR hd hes hf0 hv hterm hR1 hx0 hxv ck
  go_enter Tryz.func29, Tryz.ntmps29
  go_wp2_with fail
  have hszw : w.heap.size < (w.alloc (.cells #[.slice V 1 vc, .slice (some ⟨rg, 0, none⟩) 1 rc] 63)).heap.size := by simp
  generalize w.alloc (.cells #[.slice V 1 vc, .slice (some ⟨rg, 0, none⟩) 1 rc] 63) = w1 at *
  go_loopw [7, 13] (fun ov iv wr => (ov = .slice none 0 0 ∧ iv = .int .i64 0 ∧ w1 = wr) ∨ (∃ g c, ov = .slice (some ⟨g, 0, none⟩) 1 c ∧ iv = .int .i64 1 ∧ wr.ownsRow w.heap.size 9 1 (.slice (some ⟨g, 0, none⟩) 1 c) 1 [.string T] ∧ Fr (fun _ => False) w wr)) (fun _ iv _ => 1 - (intOf iv).toNat)
  case atStart => exact .inl ⟨rfl, rfl, rfl⟩
  case round =>
    rcases hrel with ⟨rfl, rfl, rfl⟩ | ⟨g, c, rfl, rfl, hc, hfr⟩
    · have ck := HCK.out
      have t0 : w1.cell? ⟨w.heap.size, 0, none⟩ = some (.slice V 1 vc) := HT0.out.cell 0
      have t1 : w1.cell? ⟨w.heap.size, 1, none⟩ = some (.slice (some ⟨rg, 0, none⟩) 1 rc) := HT0.out.cell 1
      go_wp2_with fail
      refine HLI.out.mono ?_
      rintro e w4 ⟨rfl, hf4⟩
      have HF4 := Lib.hid (HF.out.trans' hf4)
      have hsz4 := HF4.out.size
      clear hf4 ck t0 t1
      go_wp2_with (at_builtin; refine wpList_append_own _ rfl _ _ 28 rfl w.heap.size 9 i9 _ 1 16 Tryz.underlying28 hi9 hz90 hz91 hz92 rfl (by decide) (.slice none 0 0) 0 [] (by rfl) (World.ownsRow_nil _ _ _ _) ⟨w4.heap.size, 0, none⟩ 1 1 [.string T] (by rfl) rfl (World.news_of_block (heap_alloc_new w4 _)) (by intro u hu; rw [List.mem_singleton] at hu; rw [hu]; rfl) (by unfold maxLen; omega) (by omega) (by simp; omega) ?_; intro v7 w7 hown7 hgr7 _; obtain ⟨A7, c7, hv7⟩ := row_shape hown7; subst hv7; have HOWN7 := Lib.hid hown7; have HGR7 := Lib.hid hgr7; clear hown7 hgr7)
      have HF7 := Lib.hid (show Fr (fun _ => False) w w7 from HF4.out.trans (((Fr.refl (fun _ => False) w4).alloc _).trans (Fr.of_grown HGR7.out) (fun j _ e => by cases e)) (fun _ _ h => h))
      obtain ⟨g7, hA7, _, _, _⟩ := row_form HOWN7.out (by decide)
      subst hA7
      have HC7 := Lib.hid (show w7.ownsRow w.heap.size 9 1 (.slice (some ⟨g7, 0, none⟩) 1 c7) 1 [.string T] from HOWN7.out)
      clear HGR7 HOWN7
      go_roundw
      case rel => exact .inr ⟨g7, c7, rfl, rfl, HC7.out, HF7.out⟩
      case measure => simp [intOf]
    · have HFR := Lib.hid hfr
      have HCC := Lib.hid hc
      have HSS := Lib.hid (HSO.out g c wr (fun j hj => by
        obtain rfl : j = 0 := by omega
        exact World.ownsRow.cellAt hc 0 (by decide)))
      clear hc hfr
      go_wp2_with fail
      refine HSS.out.mono ?_
      rintro e w5 ⟨rfl, hf5⟩
      have HF5 := Lib.hid (HFR.out.trans' hf5)
      have HC5 := Lib.hid (ownsRow_fr HCC.out hf5 (fun _ _ h => h))
      clear hf5
      go_wp2_with fail
      go_ret
      exact ⟨_, _, rfl, HC5.out, HF5.out⟩

set_option maxRecDepth 100000 in
set_option maxHeartbeats 4000000 in
theorem rd_sign (n : Nat) (w : World) (h1 : 48 ≤ n) (h2 : n ≤ 57) : Calls Tryz.prog 101 #[.int .i64 (n : Int)] w fun e w' => e = .returned (.bool true) ∧ w = w' := by
  have a1 : (48 : Int) ≤ (n : Int) := by omega
  have a2 : (n : Int) ≤ 57 := by omega
  go_enter Tryz.func101, Tryz.ntmps101
  go_wp2_with fail
  go_ret
  exact ⟨rfl, rfl⟩
set_option maxRecDepth 100000 in
set_option maxHeartbeats 4000000 in
theorem rd_class (n : Nat) (w : World) (h1 : 48 ≤ n) (h2 : n ≤ 57) : Calls Tryz.prog 104 #[.int .i64 (n : Int)] w fun e w' => e = .returned (.int .i64 2) ∧ w = w' := by
  have HS := Lib.hid (rd_sign n w h1 h2)
  have b1 : ((n : Int) == 32) = false := beq_eq_false_iff_ne.2 (by omega)
  have b2 : ((n : Int) == 9) = false := beq_eq_false_iff_ne.2 (by omega)
  have b3 : ((n : Int) == 10) = false := beq_eq_false_iff_ne.2 (by omega)
  have b4 : ((n : Int) == 13) = false := beq_eq_false_iff_ne.2 (by omega)
  have a1 : (48 : Int) ≤ (n : Int) := by omega
  have a2 : (n : Int) ≤ 57 := by omega
  go_enter Tryz.func104, Tryz.ntmps104
  go_wp2_with fail
  refine HS.out.mono ?_
  rintro e w1 ⟨rfl, rfl⟩
  go_wp2_with fail
  go_ret
  exact ⟨rfl, rfl⟩
set_option maxRecDepth 100000 in
set_option maxHeartbeats 4000000 in
theorem rd_bytes (n : Nat) (w : World) (h1 : 48 ≤ n) (h2 : n ≤ 57) : Calls Tryz.prog 102 #[.int .i64 (n : Int)] w fun e w' => e = .returned (.slice (some ⟨w.heap.size, 0, none⟩) 1 1) ∧ w' = w.alloc (.cells #[.int .u8 (n : Int)] 5) := by
  have a1 : (48 : Int) ≤ (n : Int) := by omega
  have a2 : (n : Int) ≤ 57 := by omega
  go_enter Tryz.func102, Tryz.ntmps102
  go_wp2_with fail
  go_ret
  exact ⟨rfl, rfl⟩
set_option maxRecDepth 100000 in
set_option maxHeartbeats 40000000 in
theorem rd_letter (n : Nat) (w : World) (h1 : 48 ≤ n) (h2 : n ≤ 57) : Calls Tryz.prog 105 #[.int .i64 (n : Int)] w fun e w' => e = .returned (.int .u8 0) ∧ w = w' := by
  have a1 : (48 : Int) ≤ (n : Int) := by omega
  have a2 : (n : Int) ≤ 57 := by omega
  go_enter Tryz.func105, Tryz.ntmps105
  go_wp2_with fail
  go_loopw [5] (fun iv wr => ∃ k : Nat, iv = .int .i64 (k : Int) ∧ k ≤ 7 ∧ w = wr) (fun iv _ => 7 - (intOf iv).toNat)
  case atStart => exact ⟨0, rfl, by omega, rfl⟩
  case round =>
    obtain ⟨k, rfl, hk, rfl⟩ := hrel
    have hk8 : k = 0 ∨ k = 1 ∨ k = 2 ∨ k = 3 ∨ k = 4 ∨ k = 5 ∨ k = 6 ∨ k = 7 := by omega
    clear hk
    rcases hk8 with rfl | rfl | rfl | rfl | rfl | rfl | rfl | rfl
    · have hk : ((n : Int) == wrap64 (((⟨#[9, 10, 13, 8, 12, 34, 92]⟩ : ByteArray)[0]'(by decide)).toNat : Int)) = false := beq_eq_false_iff_ne.2 (by
        have h : wrap64 (((⟨#[9, 10, 13, 8, 12, 34, 92]⟩ : ByteArray)[0]'(by decide)).toNat : Int) = 9 := by decide +kernel
        omega)
      go_wp2_with fail
      go_roundw
      case rel => exact ⟨1, rfl, by omega, trivial⟩
      case measure => simp only [intOf]; omega
    · have hk : ((n : Int) == wrap64 (((⟨#[9, 10, 13, 8, 12, 34, 92]⟩ : ByteArray)[1]'(by decide)).toNat : Int)) = false := beq_eq_false_iff_ne.2 (by
        have h : wrap64 (((⟨#[9, 10, 13, 8, 12, 34, 92]⟩ : ByteArray)[1]'(by decide)).toNat : Int) = 10 := by decide +kernel
        omega)
      go_wp2_with fail
      go_roundw
      case rel => exact ⟨2, rfl, by omega, trivial⟩
      case measure => simp only [intOf]; omega
    · have hk : ((n : Int) == wrap64 (((⟨#[9, 10, 13, 8, 12, 34, 92]⟩ : ByteArray)[2]'(by decide)).toNat : Int)) = false := beq_eq_false_iff_ne.2 (by
        have h : wrap64 (((⟨#[9, 10, 13, 8, 12, 34, 92]⟩ : ByteArray)[2]'(by decide)).toNat : Int) = 13 := by decide +kernel
        omega)
      go_wp2_with fail
      go_roundw
      case rel => exact ⟨3, rfl, by omega, trivial⟩
      case measure => simp only [intOf]; omega
    · have hk : ((n : Int) == wrap64 (((⟨#[9, 10, 13, 8, 12, 34, 92]⟩ : ByteArray)[3]'(by decide)).toNat : Int)) = false := beq_eq_false_iff_ne.2 (by
        have h : wrap64 (((⟨#[9, 10, 13, 8, 12, 34, 92]⟩ : ByteArray)[3]'(by decide)).toNat : Int) = 8 := by decide +kernel
        omega)
      go_wp2_with fail
      go_roundw
      case rel => exact ⟨4, rfl, by omega, trivial⟩
      case measure => simp only [intOf]; omega
    · have hk : ((n : Int) == wrap64 (((⟨#[9, 10, 13, 8, 12, 34, 92]⟩ : ByteArray)[4]'(by decide)).toNat : Int)) = false := beq_eq_false_iff_ne.2 (by
        have h : wrap64 (((⟨#[9, 10, 13, 8, 12, 34, 92]⟩ : ByteArray)[4]'(by decide)).toNat : Int) = 12 := by decide +kernel
        omega)
      go_wp2_with fail
      go_roundw
      case rel => exact ⟨5, rfl, by omega, trivial⟩
      case measure => simp only [intOf]; omega
    · have hk : ((n : Int) == wrap64 (((⟨#[9, 10, 13, 8, 12, 34, 92]⟩ : ByteArray)[5]'(by decide)).toNat : Int)) = false := beq_eq_false_iff_ne.2 (by
        have h : wrap64 (((⟨#[9, 10, 13, 8, 12, 34, 92]⟩ : ByteArray)[5]'(by decide)).toNat : Int) = 34 := by decide +kernel
        omega)
      go_wp2_with fail
      go_roundw
      case rel => exact ⟨6, rfl, by omega, trivial⟩
      case measure => simp only [intOf]; omega
    · have hk : ((n : Int) == wrap64 (((⟨#[9, 10, 13, 8, 12, 34, 92]⟩ : ByteArray)[6]'(by decide)).toNat : Int)) = false := beq_eq_false_iff_ne.2 (by
        have h : wrap64 (((⟨#[9, 10, 13, 8, 12, 34, 92]⟩ : ByteArray)[6]'(by decide)).toNat : Int) = 92 := by decide +kernel
        omega)
      go_wp2_with fail
      go_roundw
      case rel => exact ⟨7, rfl, by omega, trivial⟩
      case measure => simp only [intOf]; omega
    · go_wp2_with fail
      go_ret
      exact ⟨rfl, rfl⟩

set_option maxRecDepth 100000 in
set_option maxHeartbeats 4000000 in
theorem rd_first (s : ByteArray) (n : Nat) (w : World) (hp : 0 < s.size) (hs : s.size = 1) (hn : (s[0]'hp).toNat = n) (h1 : 48 ≤ n) (h2 : n ≤ 57) : Calls Tryz.prog 41 #[.string s] w fun e w' => e = .returned (.tuple #[.int .i64 (n : Int), .int .i64 1]) ∧ w = w' := by
  have a1 : (48 : Int) ≤ ((s[0]'hp).toNat : Int) := by omega
  have a2 : ((s[0]'hp).toNat : Int) ≤ 57 := by omega
  have hp' : (0 : Int) < (s.size : Int) := by omega
  have HN := Lib.hid hn
  clear hs hn
  go_enter Tryz.func41, Tryz.ntmps41
  go_wp2_with fail
  go_ret2
  exact ⟨by rw [← HN.out]; rfl, rfl⟩

def SignsPost (w : World) (xs : List Int) (e : Ending) (w' : World) : Prop := ∃ A c, e = .returned (.tuple #[.slice A xs.length c, .bool true]) ∧ IntRow w' w.heap.size (.slice A xs.length c) xs ∧ Fr (fun _ => False) w w'
set_option maxRecDepth 100000 in
set_option maxHeartbeats 40000000 in
theorem rd_signs (s : ByteArray) (n : Nat) (w : World) (hp : 0 < s.size) (hs : s.size = 1) (hn : (s[0]'hp).toNat = n) (h1 : 48 ≤ n) (h2 : n ≤ 57) : Calls Tryz.prog 11 #[.string s] w (SignsPost w [(n : Int)]) := by
  obtain ⟨i3, hi3, hz30, hz31, hz32⟩ := info_parts info3
  have HF := Lib.hid (fun w1 => rd_first s n w1 hp hs hn h1 h2)
  have HEX := Lib.hid (show s.extract 0 s.size = s from by
    apply ByteArray.ext
    rw [ByteArray.data_extract]
    exact Array.extract_size)
  have HS := Lib.hid hs
  have hsz : (s.size : Int) = 1 := by omega
  have HSZ := Lib.hid hsz
  have hp' : (0 : Int) < (s.size : Int) := by omega
  have hle : (s.size : Int) ≤ 1 := by omega
  clear hs hn hsz
  unfold SignsPost
  go_enter Tryz.func11, Tryz.ntmps11
  go_wp2_with fail
  go_loopw [4, 5] (fun ov iv wr => (ov = .slice none 0 0 ∧ iv = .int .i64 0 ∧ w = wr) ∨ (∃ A c, ov = .slice A 1 c ∧ iv = .int .i64 1 ∧ IntRow wr w.heap.size (.slice A 1 c) [(n : Int)] ∧ Fr (fun _ => False) w wr)) (fun _ iv _ => 1 - (intOf iv).toNat)
  case atStart => exact .inl ⟨rfl, rfl, rfl⟩
  case round =>
    rcases hrel with ⟨rfl, rfl, rfl⟩ | ⟨A, c, rfl, rfl, hr, hfr⟩
    · go_wp2_with fail
      refine (HF.out _).mono ?_
      rintro e w2 ⟨rfl, rfl⟩
      go_wp2_with (at_builtin; refine wpList_append_own _ rfl _ _ 48 rfl w.heap.size 3 i3 _ 1 8 Tryz.underlying48 hi3 hz30 hz31 hz32 rfl (by decide) (.slice none 0 0) 0 [] (by rfl) (World.ownsRow_nil _ _ _ _) ⟨w.heap.size, 0, none⟩ 1 1 [.int .i64 (n : Int)] (by rfl) rfl (World.news_of_block (heap_alloc_new w _)) (by intro u hu; rw [List.mem_singleton] at hu; rw [hu]; rfl) (by unfold maxLen; omega) (by omega) (by simp) ?_; intro v7 w7 hown7 hgr7 _; obtain ⟨A7, c7, hv7⟩ := row_shape hown7; subst hv7; have HOWN7 := Lib.hid hown7; have HGR7 := Lib.hid hgr7; clear hown7 hgr7)
      have HF7 := Lib.hid (show Fr (fun _ => False) w w7 from ((Fr.refl _ w).alloc _).trans (Fr.of_grown HGR7.out) (fun j _ e => by cases e))
      have HI7 := Lib.hid (show IntRow w7 w.heap.size (.slice A7 1 c7) [(n : Int)] from HOWN7.out)
      clear HGR7 HOWN7
      go_roundw
      case rel => exact .inr ⟨A7, c7, rfl, rfl, HI7.out, HF7.out⟩
      case measure => simp [intOf]
    · have HR := Lib.hid hr
      have HFR := Lib.hid hfr
      clear hr hfr
      have hnl : ¬ (1 : Int) < (s.size : Int) := by omega
      go_wp2_with fail
      go_ret2
      exact ⟨A, c, rfl, HR.out, HFR.out⟩

set_option maxRecDepth 100000 in
set_option maxHeartbeats 40000000 in
theorem rd_quote (d : UInt8) (B c : Nat) (A : Option Addr) (w : World) (h1 : 48 ≤ d.toNat) (h2 : d.toNat ≤ 57) (hr : IntRow w B (.slice A 1 c) [(d.toNat : Int)]) : Calls Tryz.prog 80 #[.slice A 1 c] w fun e w' => e = .returned (.string ⟨#[34, d, 34]⟩) ∧ Fr (fun _ => False) w w' := by
  obtain ⟨i5, hi5, hz50, hz51, hz52⟩ := info_parts info5
  obtain ⟨g, rfl, _, _, _⟩ := row_form hr (by decide)
  have HL := Lib.hid (fun w1 => rd_letter d.toNat w1 h1 h2)
  have HC := Lib.hid (fun w1 => rd_class d.toNat w1 h1 h2)
  have HB := Lib.hid (fun w1 => rd_bytes d.toNat w1 h1 h2)
  have hf0 : Fr (fun _ => False) w (w.alloc (.cells #[.int .u8 34] 5)) := (Fr.refl _ _).alloc _
  have HR := Lib.hid (hr.fr hf0 (fun _ _ h => h))
  have HF := Lib.hid hf0
  have HO := Lib.hid (World.ownsRow_lit (base := w.heap.size) (e := 5) (size := 1) w #[.int .u8 34] 1 (Nat.le_refl _) (by decide) rfl)
  obtain ⟨dn, hdn⟩ : ∃ dn, dn = d.toNat := ⟨_, rfl⟩
  rw [← hdn] at HL HC HB HR h1 h2
  have HDN := Lib.hid hdn
  clear hr hf0 hdn
  go_enter Tryz.func80, Tryz.ntmps80
  go_wp2_with fail
  have hszw : w.heap.size < (w.alloc (.cells #[.int .u8 34] 5)).heap.size := by simp
  generalize w.alloc (.cells #[.int .u8 34] 5) = w1 at *
  go_loopw [4, 11] (fun ov iv wr => (ov = .slice (some ⟨w.heap.size, 0, none⟩) 1 1 ∧ iv = .int .i64 0 ∧ w1 = wr) ∨ (∃ A c, ov = .slice A 2 c ∧ iv = .int .i64 1 ∧ wr.ownsRow w.heap.size 5 1 (.slice A 2 c) 2 [.int .u8 34, .int .u8 (dn : Int)] ∧ Fr (fun _ => False) w wr)) (fun _ iv _ => 1 - (intOf iv).toNat)
  case atStart => exact .inl ⟨rfl, rfl, rfl⟩
  case round =>
    rcases hrel with ⟨rfl, rfl, rfl⟩ | ⟨A, c1, rfl, rfl, hr2, hfr⟩
    · have c0 : w1.cell? ⟨g, 0, none⟩ = some (.int .i64 (dn : Int)) := World.ownsRow.cellAt HR.out 0 (by decide)
      go_wp2_with fail
      refine (HL.out _).mono ?_
      rintro e w2 ⟨rfl, rfl⟩
      go_wp2_with fail
      refine (HC.out _).mono ?_
      rintro e w2 ⟨rfl, rfl⟩
      go_wp2_with fail
      refine (HB.out _).mono ?_
      rintro e w2 ⟨rfl, rfl⟩
      go_wp2_with (at_builtin; refine wpList_append_own _ rfl _ _ 86 rfl w.heap.size 5 i5 _ 1 1 Tryz.underlying86 hi5 hz50 hz51 hz52 rfl (by decide) (.slice (some ⟨w.heap.size, 0, none⟩) 1 1) 1 [.int .u8 34] (by rfl) (HO.out.alloc _) ⟨w1.heap.size, 0, none⟩ 1 1 [.int .u8 (dn : Int)] (by rfl) rfl (World.news_of_block (heap_alloc_new w1 _)) (by intro u hu; rw [List.mem_singleton] at hu; rw [hu]; rfl) (by unfold maxLen; omega) (by omega) (by simp; omega) ?_; intro v7 w7 hown7 hgr7 _; obtain ⟨A7, c7, hv7⟩ := row_shape hown7; subst hv7; have HOWN7 := Lib.hid hown7; have HGR7 := Lib.hid hgr7; clear hown7 hgr7)
      have HF7 := Lib.hid (show Fr (fun _ => False) w w7 from HF.out.trans (((Fr.refl (fun j => j = w.heap.size) w1).alloc _).trans (Fr.of_grown HGR7.out) (fun j _ e => by injection e with e; exact e.symm)) (fun j hj e => by omega))
      have HO7 := Lib.hid (show w7.ownsRow w.heap.size 5 1 (.slice A7 2 c7) 2 [.int .u8 34, .int .u8 (dn : Int)] from HOWN7.out)
      clear HGR7 HOWN7
      go_roundw
      case rel => exact .inr ⟨A7, c7, rfl, rfl, HO7.out, HF7.out⟩
      case measure => simp [intOf]
    · have HO2 := Lib.hid hr2
      have HFR := Lib.hid hfr
      have hszr := hfr.size
      clear hr2 hfr
      have HCV := Lib.hid (fun (g c : Nat) (w9 : World) (h : w9.ownsRow w.heap.size 5 1 (.slice (some ⟨g, 0, none⟩) 3 c) 3 [.int .u8 34, .int .u8 (dn : Int), .int .u8 34]) => show (convert 86 9 (.slice (some ⟨g, 0, none⟩) 3 c)).run Tryz.prog w9 = .ok (.string ⟨#[34, d, 34]⟩) w9 from run_convert_bytes_back (P := Tryz.prog) w9 86 9 5 ⟨g, 0, none⟩ c [34, d, 34] Tryz.underlying86 Tryz.underlying5 Tryz.underlying9 (fun j hj => by
        have hj3 : j < 3 := hj
        have e : (⟨g, 0, none⟩ : Addr).add j = ⟨g, j, none⟩ := by have := Addr.add_mid g 0 j; rwa [Nat.zero_add] at this
        rw [e, World.ownsRow.cellAt h j (by omega)]
        have hj4 : j = 0 ∨ j = 1 ∨ j = 2 := by omega
        have hd := HDN.out
        rcases hj4 with rfl | rfl | rfl
        · rfl
        · show some (Value.int .u8 (dn : Int)) = some (Value.int .u8 (d.toNat : Int))
          rw [hd]
        · rfl))
      go_wp2_with (at_builtin; refine wpList_append_own _ rfl _ _ 86 rfl w.heap.size 5 i5 _ 1 1 Tryz.underlying86 hi5 hz50 hz51 hz52 rfl (by decide) (.slice A 2 c1) 2 [.int .u8 34, .int .u8 (dn : Int)] (by rfl) (HO2.out.alloc _) ⟨wr.heap.size, 0, none⟩ 1 1 [.int .u8 34] (by rfl) rfl (World.news_of_block (heap_alloc_new wr _)) (by intro u hu; rw [List.mem_singleton] at hu; rw [hu]; rfl) (by unfold maxLen; omega) (by omega) (by simp; omega) ?_; intro v7 w7 hown7 hgr7 _; obtain ⟨A7, c7, hv7⟩ := row_shape hown7; subst hv7; obtain ⟨g7, hA7, _, _, _⟩ := row_form hown7 (by decide); subst hA7; have hcv := HCV.out g7 c7 w7 hown7; have HOWN7 := Lib.hid hown7; have HGR7 := Lib.hid hgr7; clear hown7 hgr7)
      have HF7 := Lib.hid (show Fr (fun _ => False) w w7 from HFR.out.trans (((Fr.refl (fun j => w.heap.size ≤ j) wr).alloc _).trans (Fr.of_grown HGR7.out) (fun j _ e => (HO2.out.lt j e).1)) (fun j hj e => by omega))
      go_ret
      exact ⟨rfl, HF7.out⟩

set_option maxRecDepth 100000 in
set_option maxHeartbeats 40000000 in
/-- The document's text of a digit's literal. -/
theorem rd_text (d : UInt8) (w : World) (h1 : 48 ≤ d.toNat) (h2 : d.toNat ≤ 57) : Calls Tryz.prog 30 #[.agg #[.int .i64 2, .string ⟨#[d]⟩, .string xInt, .string ⟨#[]⟩]] w fun e w' => e = .returned (.string (digT d)) ∧ Fr (fun _ => False) w w' := by
  have HSG := Lib.hid (fun w1 => rd_signs ⟨#[d]⟩ d.toNat w1 Nat.zero_lt_one rfl rfl h1 h2)
  have HQ := Lib.hid (fun B c A w1 hr => rd_quote d B c A w1 h1 h2 hr)
  unfold digT xInt
  generalize (⟨#[d]⟩ : ByteArray) = dd at *
  have hb := Blk.new w 52 #[.int .i64 2, .string dd, .string ⟨#[104, 116, 116, 112, 58, 47, 47, 119, 119, 119, 46, 119, 51, 46, 111, 114, 103, 47, 50, 48, 48, 49, 47, 88, 77, 76, 83, 99, 104, 101, 109, 97, 35, 105, 110, 116, 101, 103, 101, 114]⟩, .string ⟨#[]⟩]
  have hf : Fr (fun _ => False) w (w.alloc (.cells #[.int .i64 2, .string dd, .string ⟨#[104, 116, 116, 112, 58, 47, 47, 119, 119, 119, 46, 119, 51, 46, 111, 114, 103, 47, 50, 48, 48, 49, 47, 88, 77, 76, 83, 99, 104, 101, 109, 97, 35, 105, 110, 116, 101, 103, 101, 114]⟩, .string ⟨#[]⟩] 52)) := (Fr.refl _ _).alloc _
  have HB := Lib.hid hb
  have HF := Lib.hid hf
  clear hb hf
  go_enter Tryz.func30, Tryz.ntmps30
  go_wp2_with fail
  generalize w.alloc (.cells #[.int .i64 2, .string dd, .string ⟨#[104, 116, 116, 112, 58, 47, 47, 119, 119, 119, 46, 119, 51, 46, 111, 114, 103, 47, 50, 48, 48, 49, 47, 88, 77, 76, 83, 99, 104, 101, 109, 97, 35, 105, 110, 116, 101, 103, 101, 114]⟩, .string ⟨#[]⟩] 52) = w1 at *
  refine (HSG.out _).mono ?_
  rintro e w2 ⟨A, c, rfl, hr2, hf2⟩
  have HQQ := Lib.hid (HQ.out _ c A w2 hr2)
  have HB2 := Lib.hid (HB.out.fr hf2 (fun h => h))
  have HF2 := Lib.hid (HF.out.trans' hf2)
  clear hr2 hf2
  go_wp2_with fail
  refine HQQ.out.mono ?_
  rintro e w3 ⟨rfl, hf3⟩
  have hb3 := HB2.out.fr hf3 (fun h => h)
  have b2 : w3.cell? ⟨w.heap.size, 2, none⟩ = some (.string ⟨#[104, 116, 116, 112, 58, 47, 47, 119, 119, 119, 46, 119, 51, 46, 111, 114, 103, 47, 50, 48, 48, 49, 47, 88, 77, 76, 83, 99, 104, 101, 109, 97, 35, 105, 110, 116, 101, 103, 101, 114]⟩) := hb3.cell 2
  have b3 : w3.cell? ⟨w.heap.size, 3, none⟩ = some (.string ⟨#[]⟩) := hb3.cell 3
  have HF3 := Lib.hid (HF2.out.trans' hf3)
  clear hb3 hf3
  go_wp2_with fail
  go_ret
  exact ⟨rfl, HF3.out⟩

set_option maxRecDepth 100000 in
set_option maxHeartbeats 4000000 in
/-- Lists of one line, the same one. -/
theorem lines_same (T : ByteArray) (B1 B2 c1 c2 : Nat) (A1 A2 : Option Addr) (w : World) (h1 : w.ownsRow B1 9 1 (.slice A1 1 c1) 1 [.string T]) (h2 : w.ownsRow B2 9 1 (.slice A2 1 c2) 1 [.string T]) :
    Calls Tryz.prog 28 #[.slice A1 1 c1, .slice A2 1 c2] w (IsB true w) := by
  obtain ⟨g1, rfl, _, _, _⟩ := row_form h1 (by decide)
  obtain ⟨g2, rfl, _, _, _⟩ := row_form h2 (by decide)
  have k1 : w.cell? ⟨g1, 0, none⟩ = some (.string T) := World.ownsRow.cellAt h1 0 (by decide)
  have k2 : w.cell? ⟨g2, 0, none⟩ = some (.string T) := World.ownsRow.cellAt h2 0 (by decide)
  have HK := Lib.hid (And.intro k1 k2)
  clear h1 h2 k1 k2
  go_enter Tryz.func28, Tryz.ntmps28
  go_wp2_with fail
  go_loopw [13] (fun iv wr => (iv = .int .i64 0 ∧ w = wr) ∨ (iv = .int .i64 1 ∧ Fr (fun _ => False) w wr)) (fun iv _ => 1 - (intOf iv).toNat)
  case atStart => exact .inl ⟨rfl, rfl⟩
  case round =>
    rcases hrel with ⟨rfl, rfl⟩ | ⟨rfl, hfr⟩
    · obtain ⟨k1, k2⟩ := HK.out
      go_wp2_with fail
      go_big_quiet (fail)
      go_wp2_with fail
      go_roundw
      case rel => exact .inr ⟨rfl, (Fr.refl _ _).drewN _⟩
      case measure => simp [intOf]
    · have HF := Lib.hid hfr
      clear hfr
      go_wp2_with fail
      go_ret
      exact ⟨rfl, HF.out⟩

end Go.Proofs.YtebddgdkndmpjaaGreatDoor
