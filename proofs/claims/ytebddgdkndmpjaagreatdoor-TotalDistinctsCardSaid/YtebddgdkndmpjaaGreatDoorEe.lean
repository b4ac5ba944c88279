/- Filter over a closure that keeps some rows and writes into a map: walked. -/
import Derived.Test.YtebddgdkndmpjaaGreatDoorAa
import Derived.Test.YtebddgdkndmpjaaGreatDoorEd
import Derived.Deep.CutBlock
import Derived.Deep.RegionLawGrows
import Derived.Deep.Cut
import Derived.Deep.CutRange
import Derived.WalkKit
import Derived.WalkLawsBesides
import Derived.WalkSpells
import Derived.Deep.QuietTactic
import Derived.BigRegion
import Derived.BigQuiet
import Derived.Lib.Hide
import Derived.Outline
import Derived.Deep.AppendLies
import Derived.Deep.RegionLaw
import Derived.Deep.RegionWith
import Derived.Deep.RegionHeld3
import Derived.Deep.LoopGhost
import Derived.Deep.DeepFit
import Derived.Laws.ResultCell
import Derived.Laws.RangeAny
import Derived.Deep.MidRow
import Derived.StillTailTactics
import Derived.OpenShut
namespace Go.Proofs.YtebddgdkndmpjaaGreatDoor
set_option linter.unusedVariables false
open Go.RowKit Go

/-- The rows that are kept. -/
def keepL (rows : List (List Int)) (keep : Nat → Bool) : Nat → List (List Int)
  | 0 => []
  | k + 1 => if keep k = true then keepL rows keep k ++ [rows.getD k []] else keepL rows keep k
theorem keepL_succ (rows : List (List Int)) (keep : Nat → Bool) (k : Nat) : keepL rows keep (k + 1) = if keep k = true then keepL rows keep k ++ [rows.getD k []] else keepL rows keep k := rfl
theorem keepL_len (rows : List (List Int)) (keep : Nat → Bool) : ∀ k, (keepL rows keep k).length ≤ k
  | 0 => Nat.le_refl _
  | k + 1 => by
    have ih := keepL_len rows keep k
    rw [keepL_succ]
    split
    · rw [List.length_append, List.length_singleton]; omega
    · omega
def KeepPost (mb : Nat) (I : Nat → World → Prop) (keep : Nat → Bool) (i : Nat) (w1 : World) (e : Ending) (w2 : World) : Prop :=
  e = .returned (.bool (keep i)) ∧ I (i + 1) w2 ∧ Fr (fun j => j = mb) w1 w2
def FilterPostG (mb : Nat) (w : World) (m : Nat) (ss : List ByteArray) (rows : List (List Int)) (e : Ending) (w' : World) : Prop :=
  ∃ V vc vr vals, e = .returned (.agg #[.slice V m vc, vr]) ∧ (m = 0 → V = none ∧ vc = 0) ∧ w'.ownsRow w.heap.size 9 1 (.slice V m vc) m (ss.map .string) ∧ RowsAt w' w.heap.size vr vals rows ∧ Fr (fun j => j = mb) w w'

set_option maxRecDepth 100000 in
set_option maxHeartbeats 4000000 in
theorem filterG (mb : Nat) (I : Nat → World → Prop) (keep : Nat → Bool) (F : Nat) (C : Array Value) (m vc B B2 : Nat) (V : Option Addr) (vr : Value) (vals : List Value) (rows : List (List Int)) (ss : List ByteArray) (w : World) (hm : m ≤ 4096) (hV : m = 0 → V = none ∧ vc = 0) (hn : rows.length ≤ 4096)
    (hl : ∀ i, i < rows.length → (rows.getD i []).length = m) (hs : w.ownsRow B 9 1 (.slice V m vc) m (ss.map .string)) (hr : RowsAt w B2 vr vals rows)
    (hen : ∀ args w, (callFunc F args).run Tryz.prog w = .ok (.enter F args) w) (hmap : ∃ f, SMap w mb f) (hI0 : I 0 w) (hIk : ∀ k w1 w2, w.heap.size ≤ w1.heap.size → I k w1 → Fr (fun j => w.heap.size ≤ j) w1 w2 → I k w2) (hok : ∀ w1 i, i < rows.length → Fr (fun j => w.heap.size ≤ j ∨ j = mb) w w1 → I i w1 → Calls Tryz.prog F (#[.agg #[.slice V m vc, vr], vals.getD i undef] ++ C) w1 (KeepPost mb I keep i w1)) :
    Calls Tryz.prog 66 #[.agg #[.slice V m vc, vr], .func (.func F) #[] C] w (FilterPostG mb w m ss (keepL rows keep rows.length)) := by
  obtain ⟨f0, hm0⟩ := hmap
  have hmb := hm0.lt
  have HNV := Lib.hid (fun j (hj : (Value.slice V m vc).ownBlock = some j) (e : j = mb) => hm0.ne_row hs (by rw [hj, e]))
  have HNR := Lib.hid (fun j (hj : vr.ownBlock = some j) (e : j = mb) => hm0.ne_row hr.own (by rw [hj, e]))
  have HNE := Lib.hid (fun i (hi : i < rows.length) j (hj : (vals.getD i undef).ownBlock = some j) (e : j = mb) => hm0.ne_row (hr.each i hi) (by rw [hj, e]))
  have HIK := Lib.hid hIk
  have HI0 := Lib.hid hI0
  clear hm0 hIk hI0
  have HCL := Lib.hid (fun w hs => cloneN_any m vc B V ss w hm hV hs)
  have HS := Lib.hid hs
  have HR := Lib.hid hr
  have HOK := Lib.hid hok
  have HL := Lib.hid hl
  obtain ⟨i48, hi48, hz480, hz481, hz482⟩ := info_parts info48
  obtain ⟨A, c, hvr⟩ := row_shape hr.own
  subst hvr
  clear hs hr hok hl
  go_enter Tryz.func66, Tryz.ntmps66
  go_wp2_with fail
  refine (HCL.out _ ((HS.out.alloc _).alloc _)).mono ?_
  rintro e w1 ⟨V1, vc1, rfl, hV1, hrow1, hf1⟩
  have hb0 := Blk.new w 63 #[.slice V m vc, .slice A rows.length c]
  have hb1 := Blk.new (w.alloc (.cells #[.slice V m vc, .slice A rows.length c] 63)) 63 #[.slice none 0 0, .slice none 0 0]
  have hz : (w.alloc (.cells #[.slice V m vc, .slice A rows.length c] 63)).heap.size = w.heap.size + 1 := by simp
  have hz2 : ((w.alloc (.cells #[.slice V m vc, .slice A rows.length c] 63)).alloc (.cells #[.slice none 0 0, .slice none 0 0] 63)).heap.size = w.heap.size + 2 := by simp
  rw [hz] at hb1
  have hsz1 := hf1.size
  rw [hz2] at hrow1 hsz1
  have F1 : Fr (fun j => w.heap.size ≤ j) w (w1.alloc (.cells #[.slice V1 m vc1, .slice none 0 0] 63)) := (((((Fr.refl _ w).alloc _).alloc _).trans hf1 (fun _ _ h => h.elim))).alloc _
  have START := Lib.hid (show ∃ (k : Nat) (vr : Value) (vals : List Value), Value.int .i64 0 = .int .i64 (k : Int) ∧ k ≤ rows.length ∧ Blk (w1.alloc (.cells #[.slice V1 m vc1, .slice none 0 0] 63)) w.heap.size 63 #[.slice V m vc, .slice A rows.length c] ∧ Blk (w1.alloc (.cells #[.slice V1 m vc1, .slice none 0 0] 63)) w1.heap.size 63 #[.slice V1 m vc1, vr] ∧ Blk (w1.alloc (.cells #[.slice V1 m vc1, .slice none 0 0] 63)) (w.heap.size + 1) 63 #[.slice none 0 0, .slice none 0 0] ∧ (w1.alloc (.cells #[.slice V1 m vc1, .slice none 0 0] 63)).ownsRow w.heap.size 9 1 (.slice V1 m vc1) m (ss.map .string) ∧ RowsAt (w1.alloc (.cells #[.slice V1 m vc1, .slice none 0 0] 63)) w.heap.size vr vals (keepL rows keep k) ∧ I k (w1.alloc (.cells #[.slice V1 m vc1, .slice none 0 0] 63)) ∧ Fr (fun j => w.heap.size ≤ j ∨ j = mb) w (w1.alloc (.cells #[.slice V1 m vc1, .slice none 0 0] 63)) from
    ⟨0, .slice none 0 0, [], rfl, Nat.zero_le _, ((hb0.alloc _).fr hf1 (fun h => h)).alloc _, Blk.new _ _ _, (hb1.fr hf1 (fun h => h)).alloc _, (ownsRow_base hrow1 (by omega)).alloc _, ⟨World.ownsRow_nil _ _ _ _, fun i hi => absurd hi (by simp [keepL])⟩, HIK.out 0 w _ (Nat.le_refl _) HI0.out F1, F1.mono (fun _ _ h => .inl h)⟩)
  have c0 : (w1.alloc (.cells #[.slice V1 m vc1, .slice none 0 0] 63)).cell? ⟨w.heap.size, 1, none⟩ = some (.slice A rows.length c) := (((hb0.alloc _).fr hf1 (fun h => h)).alloc _).cell 1
  have c0' : w1.cell? ⟨w.heap.size, 1, none⟩ = some (.slice A rows.length c) := ((hb0.alloc _).fr hf1 (fun h => h)).cell 1
  have hlt1 : w.heap.size < w1.heap.size := by omega
  clear hb0 hb1 F1 hrow1 hf1 hz hz2
  go_wp2_with fail
  go_loopw [7, 15] (fun _ iv wr => ∃ (k : Nat) (vr : Value) (vals : List Value), iv = .int .i64 (k : Int) ∧ k ≤ rows.length ∧ Blk wr w.heap.size 63 #[.slice V m vc, .slice A rows.length c] ∧ Blk wr w1.heap.size 63 #[.slice V1 m vc1, vr] ∧ Blk wr (w.heap.size + 1) 63 #[.slice none 0 0, .slice none 0 0] ∧ wr.ownsRow w.heap.size 9 1 (.slice V1 m vc1) m (ss.map .string) ∧ RowsAt wr w.heap.size vr vals (keepL rows keep k) ∧ I k wr ∧ Fr (fun j => w.heap.size ≤ j ∨ j = mb) w wr) (fun _ iv _ => rows.length - (intOf iv).toNat)
  case atStart => exact START.out
  case round =>
    obtain ⟨k, vr, vals2, rfl, hk, htb, hob, hcb, hvr, hra, hik, hf⟩ := hrel
    have HIKK := Lib.hid hik
    have hszw := hf.size
    have HTB := Lib.hid htb
    have HOB := Lib.hid hob
    have HCB := Lib.hid hcb
    have HVR := Lib.hid hvr
    have HRA := Lib.hid hra
    have HF := Lib.hid hf
    have hrr := HR.out.fr hf (fun j hj h => h.elim (fun h => absurd (HR.out.own.lt j hj).2 (by omega)) (HNR.out j hj)) (fun i hi j hj h => h.elim (fun h => absurd ((HR.out.each i hi).lt j hj).2 (by omega)) (HNE.out i hi j hj))
    by_cases hlt : k < rows.length
    · have hlt' : (k : Int) < (rows.length : Int) := by omega
      obtain ⟨ga, rfl, _, _, _⟩ := row_form hrr.own (by omega)
      have hck : wr.cell? ⟨ga, k, none⟩ = some (vals.getD k undef) := by
        rw [World.ownsRow.cellAt hrr.own k (by omega), List.getD_eq_getElem?_getD, List.getElem?_eq_getElem (by have := hrr.len; omega)]; rfl
      have hek := hrr.each k hlt
      obtain ⟨A2, c2, hv2⟩ := row_shape hek
      have HOKK := Lib.hid (HOK.out wr k hlt hf hik)
      unfold KeepPost at HOKK
      have hne2 := HNE.out k hlt
      have t0 : wr.cell? ⟨w.heap.size, 0, none⟩ = some (.slice V m vc) := htb.cell 0
      have t1 : wr.cell? ⟨w.heap.size, 1, none⟩ = some (.slice (some ⟨ga, 0, none⟩) rows.length c) := htb.cell 1
      rw [hv2] at hck hek HOKK hne2
      rw [HL.out k hlt] at hck hek HOKK hne2
      have HNE2 := Lib.hid hne2
      have hkl := keepL_len rows keep k
      have HX0 := Lib.hid (keepL_succ rows keep k)
      have hlk := HL.out k hlt
      generalize rows.getD k [] = rk at *
      have HLK := Lib.hid hlk
      have HEK := Lib.hid hek
      obtain ⟨A3, c3, hv3⟩ := row_shape hra.own
      subst hv3
      obtain ⟨q, hq⟩ : ∃ q, q = (keepL rows keep k).length := ⟨_, rfl⟩
      rw [← hq] at hkl HOB
      obtain ⟨R0, hR0⟩ : ∃ R0, R0 = keepL rows keep k := ⟨_, rfl⟩
      rw [← hR0] at HRA HX0 hq
      rw [← hq] at HRA
      have HQ := Lib.hid hq
      clear hrr hek hcb hob htb hvr hra hf hv2 hlk hne2 hik hq hR0
      cases hkp : keep k with
      | true =>
        rw [hkp] at HOKK
        have HX := Lib.hid (show keepL rows keep (k + 1) = R0 ++ [rk] by rw [HX0.out, hkp]; rfl)
        clear HX0
        go_wp2_with fail
        refine HOKK.out.mono ?_
        rintro e w2 ⟨rfl, hik2, hf2⟩
        have HIK2 := Lib.hid hik2
        have hlto := HOB.out.lt
        have hsz2 := hf2.size
        have b1 := (HOB.out.fr hf2 (fun h => by omega)).cell 1
        have b1f := (HOB.out.fr hf2 (fun h => by omega)).frozen 1
        have HCLR := Lib.hid (fun wy hr => cloneI_all B2 (.slice A2 m c2) rk wy (by rw [HLK.out]; exact hm) hr)
        have HF2D := Lib.hid (show Fr (fun j => j = mb) wr w2.drew from hf2.drew)
        have HRA2 := Lib.hid (HRA.out.fr HF2D.out (fun j hj e => by have := (HRA.out.own.lt j hj).1; omega) (fun i hi j hj e => by have := ((HRA.out.each i hi).lt j hj).1; omega))
        have HOB2 := Lib.hid (HOB.out.fr HF2D.out (fun h => by omega))
        have hne := own_blk_ne HRA.out.own HOB.out (by decide)
        have hb1 : w.heap.size ≤ w2.heap.size := by omega
        clear hf2 hik2
        go_wp2_with fail
        go_region_law (first
          | (go_simp; go_at_call 124; refine (HCLR.out _ (HEK.out.fr HF2D.out HNE2.out)).mono ?_; rintro e w3 ⟨v3, rfl, hrow3, hf3⟩; obtain ⟨A4, c4, hv4⟩ := row_shape hrow3; subst hv4; have b2 := (HOB2.out.fr hf3 (fun h => h)).cell 1; have b2f := (HOB2.out.fr hf3 (fun h => h)).frozen 1; have HRA3 := Lib.hid (HRA2.out.frF hf3); have HOB3 := Lib.hid (HOB2.out.fr hf3 (fun h => h)); have hlo3 := HOB3.out.lt; have hsz3 := hf3.size; rw [show w2.drew.heap.size = w2.heap.size from rfl] at hsz3)
          | (refine step_append_lies _ (by rfl) _ _ 61 (by rfl) w.heap.size 48 i48 _ 1 24 Tryz.underlying61 hi48 hz480 hz481 hz482 rfl (by decide) (.slice A3 q c3) q vals2 (by rfl) (by have h := HRA3.out.own; rw [← HQ.out] at h; exact h.alloc _) ⟨w3.heap.size, 0, none⟩ 1 1 [.slice A4 rk.length c4] (by rfl) rfl (by exact World.news_of_block (heap_alloc_new w3 _)) (by intro u hu; rw [List.mem_singleton] at hu; rw [hu]; rfl) (by decide) (by unfold maxLen; omega) (by omega) (by simp; omega) (w3.heap.size + 1) (by simp) ?_; intro g cap w6 hown6 hgr6 hor6 hlt6; have hbl6 : Blk w6 w1.heap.size 63 _ := Blk.fr (HOB3.out.alloc _) (Fr.of_grown hgr6) hne; have d1 := hbl6.cell 1; have e1 := hbl6.frozen 1))
        all_goals
          have F6 : Fr (fun j => (Value.slice A3 q c3).ownBlock = some j) w3 w6 := ((Fr.refl _ w3).alloc _).trans (Fr.of_grown hgr6) (fun _ _ h => h)
          have F3 : Fr (fun j => j = mb) wr w3 := HF2D.out.trans hf3 (fun _ _ h => h.elim)
          have FS : Fr (fun j => j = w1.heap.size) w6 (w6.setCell ⟨w1.heap.size, 1, none⟩ (.slice (some ⟨g, 0, none⟩) (q + 1) cap)) := (Fr.refl (fun j => j = w1.heap.size) w6).setCell ⟨w1.heap.size, 1, none⟩ (fun _ => rfl) _
          have O7 := Lib.hid (show Blk (w6.setCell ⟨w1.heap.size, 1, none⟩ (.slice (some ⟨g, 0, none⟩) (q + 1) cap)) w1.heap.size 63 #[.slice V1 m vc1, .slice (some ⟨g, 0, none⟩) (q + 1) cap] from hbl6.set_ 1 _)
          have hr6 := HRA3.out.push hrow3 (by rw [show w2.drew.heap.size = w2.heap.size from rfl]; exact hb1) (.cells #[.slice A4 rk.length c4] 48) (by rw [← HQ.out]; exact hown6) hgr6
          rw [← HX.out] at hr6
          have R7 := Lib.hid (hr6.frB hbl6 (by decide) (by decide) FS)
          have T3 := HTB.out.fr F3 (fun h => by omega)
          have C3 := HCB.out.fr F3 (fun h => by omega)
          have V3 := ownsRow_fr HVR.out F3 (fun j hj e => by have := (HVR.out.lt j hj).1; omega)
          have hT := own_blk_ne HRA3.out.own T3 (by decide)
          have hC := own_blk_ne HRA3.out.own C3 (by decide)
          have T7 := Lib.hid ((T3.fr F6 (fun h => hT h)).fr FS (fun h => absurd h (by omega)))
          have C7 := Lib.hid ((C3.fr F6 (fun h => hC h)).fr FS (fun h => absurd h (by omega)))
          have V7 := Lib.hid (ownsRow_fr (ownsRow_fr V3 F6 (fun j hj h => row_row_ne HRA3.out.own V3 (by decide) h hj)) FS (fun j hj h => own_blk_ne V3 HOB3.out (by decide) (by rw [hj, h])))
          have F7 := Lib.hid (((HF.out.trans F3 (fun _ _ h => .inr h)).trans F6 (fun j _ h => .inl (HRA3.out.own.lt j h).1)).trans FS (fun j _ h => .inl (by omega)))
          have I7 := Lib.hid (HIK.out (k + 1) w2 _ hb1 HIK2.out (((((Fr.refl (fun j => w.heap.size ≤ j) w2).drew).trans hf3 (fun _ _ h => h.elim)).trans F6 (fun j _ h => (HRA3.out.own.lt j h).1)).trans FS (fun j _ h => by omega)))
          clear F6 F3 FS hr6 T3 C3 V3 hT hC hbl6 d1 e1 hown6 hgr6 hor6 hlt6 hrow3 hf3 b2 b2f b1 b1f hne
          go_wp2_with fail
          go_roundw
          case rel => exact ⟨k + 1, _, _, by go_num, hlt, T7.out, O7.out, C7.out, V7.out, R7.out, I7.out, F7.out⟩
          case measure => simp only [intOf]; omega
      | false =>
        rw [hkp] at HOKK
        have HX := Lib.hid (show keepL rows keep (k + 1) = R0 by rw [HX0.out, hkp]; rfl)
        clear HX0
        go_wp2_with fail
        refine HOKK.out.mono ?_
        rintro e w2 ⟨rfl, hik2, hf2⟩
        have HIK2 := Lib.hid hik2
        have T7 := Lib.hid (HTB.out.fr hf2 (fun h => by omega))
        have C7 := Lib.hid (HCB.out.fr hf2 (fun h => by omega))
        have O7 := Lib.hid (HOB.out.fr hf2 (fun h => by omega))
        have V7 := Lib.hid (ownsRow_fr HVR.out hf2 (fun j hj e => by have := (HVR.out.lt j hj).1; omega))
        have R7 := Lib.hid (HRA.out.fr hf2 (fun j hj e => by have := (HRA.out.own.lt j hj).1; omega) (fun i hi j hj e => by have := ((HRA.out.each i hi).lt j hj).1; omega))
        have F7 := Lib.hid (HF.out.trans hf2 (fun _ _ h => .inr h))
        clear hf2 hik2
        go_wp2_with fail
        go_roundw
        case rel => exact ⟨k + 1, _, _, by go_num, hlt, T7.out, O7.out, C7.out, V7.out, by rw [HX.out]; exact R7.out, HIK2.out, F7.out⟩
        case measure => simp only [intOf]; omega
    · have hlt' : ¬ (k : Int) < (rows.length : Int) := by omega
      have hkn : k = rows.length := by omega
      subst hkn
      obtain ⟨Ar, cr, hvr2⟩ := row_shape hra.own
      subst hvr2
      clear HOK HIKK
      generalize keepL rows keep rows.length = R0 at *
      generalize R0.length = q at *
      have t0 : wr.cell? ⟨w1.heap.size, 0, none⟩ = some (.slice V1 m vc1) := HOB.out.cell 0
      have t1 : wr.cell? ⟨w1.heap.size, 1, none⟩ = some (.slice Ar q cr) := HOB.out.cell 1
      have hlcb := HCB.out.lt
      have f0 := HCB.out.frozen 0
      have f1 := HCB.out.frozen 1
      have cc0 : wr.cell? ⟨w.heap.size + 1, 0, none⟩ = some (.slice none 0 0) := HCB.out.cell 0
      have hb2 := HCB.out.set_ 0 (.slice V1 m vc1)
      have cc1 : (wr.setCell ⟨w.heap.size + 1, 0, none⟩ (.slice V1 m vc1)).cell? ⟨w.heap.size + 1, 1, none⟩ = some (.slice none 0 0) := hb2.cell 1
      have f12 : (wr.setCell ⟨w.heap.size + 1, 0, none⟩ (.slice V1 m vc1)).frozen? ⟨w.heap.size + 1, 1, none⟩ = false := hb2.frozen 1
      have cc12 : wr.cell? ⟨w.heap.size + 1, 1, none⟩ = some (.slice none 0 0) := HCB.out.cell 1
      have hl2 := hb2.lt
      have hb3 : Blk ((wr.setCell ⟨w.heap.size + 1, 0, none⟩ (.slice V1 m vc1)).setCell ⟨w.heap.size + 1, 1, none⟩ (.slice Ar q cr)) (w.heap.size + 1) 63 #[.slice V1 m vc1, .slice Ar q cr] := hb2.set_ 1 (.slice Ar q cr)
      have FS : Fr (fun j => j = w.heap.size + 1) wr ((wr.setCell ⟨w.heap.size + 1, 0, none⟩ (.slice V1 m vc1)).setCell ⟨w.heap.size + 1, 1, none⟩ (.slice Ar q cr)) := ((Fr.refl (fun j => j = w.heap.size + 1) wr).setCell ⟨w.heap.size + 1, 0, none⟩ (fun _ => rfl) _).setCell ⟨w.heap.size + 1, 1, none⟩ (fun _ => rfl) _
      have HB3 := Lib.hid hb3
      have HRA3 := Lib.hid (HRA.out.frB HCB.out (by decide) (by decide) FS)
      have HVR3 := Lib.hid (ownsRow_fr HVR.out FS (fun j hj e => own_blk_ne HVR.out HCB.out (by decide) (by rw [hj, e])))
      have HF3 := Lib.hid ((HF.out.trans FS (fun j _ h => .inl (by omega))).mono (T := fun j => j = mb) (fun j hj h => h.elim (fun h => absurd hj (by omega)) id))
      clear hrr hb2 hb3 FS hob hcb htb hvr hra hik hf
      go_wp2_with fail
      exact bodyPost_ret (v := .agg #[.slice V1 m vc1, .slice Ar q cr]) (results_cell_row rfl _ _ (w.heap.size + 1) 63 _ (0, 0) _ rfl HB3.out Tryz.underlying63 rfl (by kernel_rfl)) rfl ⟨V1, vc1, .slice Ar q cr, vals2, rfl, hV1, HVR3.out, HRA3.out, HF3.out⟩


end Go.Proofs.YtebddgdkndmpjaaGreatDoor
