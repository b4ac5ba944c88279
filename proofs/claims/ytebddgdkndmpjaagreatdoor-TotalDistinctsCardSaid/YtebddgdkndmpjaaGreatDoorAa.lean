/- Tables: a row copied, the table of none: walked. -/
import Derived.Test.YtebddgdkndmpjaaGreatDoorHf
import Derived.Test.YtebddgdkndmpjaaGreatDoorHo
import Derived.Test.YtebddgdkndmpjaaGreatDoorHg
import Derived.Deep.CutBlock
import Derived.Deep.RegionLawGrows
import Derived.Deep.Cut
import Derived.Deep.CutRange
import Derived.WalkKit
import Derived.WalkLawsBesides
import Derived.WalkSpells
import Derived.Deep.QuietTactic
import Derived.BigRegion
import Derived.BigQuiet
import Derived.Lib.Hide
import Derived.Outline
import Derived.Deep.AppendLies
import Derived.Deep.RegionLaw
import Derived.Deep.RegionWith
import Derived.Deep.RegionHeld3
import Derived.Deep.LoopGhost
import Derived.Deep.DeepFit
import Derived.Laws.ResultCell
import Derived.Laws.RangeAny
import Derived.Deep.MidRow
import Derived.StillTailTactics
import Derived.OpenShut
namespace Go.Proofs.YtebddgdkndmpjaaGreatDoor
set_option linter.unusedVariables false
open Go.RowKit Go

set_option maxRecDepth 100000 in
set_option maxHeartbeats 4000000 in
theorem cloneI_any (n c B : Nat) (g : Nat) (xs : List Int) (w : World) (hn : n ≤ 4096) (hr : IntRow w B (.slice (some ⟨g, 0, none⟩) n c) xs) (hl : xs.length = n) :
    Calls Tryz.prog 124 #[.slice (some ⟨g, 0, none⟩) n c] w fun e w' => ∃ v, e = .returned v ∧ IntRow w' w.heap.size v xs ∧ Fr (fun _ => False) w w' := by
  obtain ⟨i3, hi3, hz30, hz31, hz32⟩ := info_parts info3
  have HC := Lib.hid hr
  have hc2 : ∀ j u, (xs.map (Value.int .i64))[j]? = some u → (w.alloc (.cells #[] 3)).cell? ((⟨g, 0, none⟩ : Addr).add j) = some u := by
    intro j u hj
    rw [List.getElem?_map] at hj
    obtain ⟨x, hx, hxu⟩ := Option.map_eq_some_iff.1 hj
    obtain ⟨hlt, he⟩ := List.getElem?_eq_some_iff.1 hx
    have h := int_cell HC.out j (by omega)
    rw [List.getD_eq_getElem?_getD, hx, Option.getD_some, hxu] at h
    have e : (⟨g, 0, none⟩ : Addr).add j = ⟨g, j, none⟩ := add_cell g j
    rw [e]
    exact cell_fr ((Fr.refl _ _).alloc _) h
  have hrow : (w.alloc (.cells #[] 3)).ownsRow w.heap.size 3 1 (.slice (some ⟨w.heap.size, 0, none⟩) 0 0) 0 [] := World.ownsRow_lit w #[] 0 (Nat.le_refl _) (by decide) rfl
  have HC2 := Lib.hid hc2
  clear hc2 hr
  have hq : ∀ w, (binOp .eql 48 (.slice (some ⟨g, 0, none⟩) n c) (.slice none 0 0)).run Tryz.prog w = .ok (.bool false) w := fun w => by rfl
  go_enter Tryz.func124, Tryz.ntmps124
  go_wp2_with (at_builtin; refine wpList_append_own _ rfl _ _ 48 rfl w.heap.size 3 i3 _ 1 8 Tryz.underlying48 hi3 hz30 hz31 hz32 rfl (by decide) _ 0 [] (by rfl) hrow ⟨g, 0, none⟩ n c (xs.map (.int .i64)) (by rfl) (by simp [hl]) HC2.out (by intro u hu; obtain ⟨x, _, rfl⟩ := List.mem_map.1 hu; rfl) (by unfold maxLen; omega) (by omega) (by simp) ?_; intro v2 w2 hown2 hgr2 _; obtain ⟨A2, c2, hv2⟩ := row_shape hown2; subst hv2)
  have HF := Lib.hid (((Fr.refl (fun _ => False) w).alloc (.cells #[] 3)).grown hgr2 (fun k hk e => by injection e with e; simp at e; omega))
  have HR := Lib.hid hown2
  go_wp2_with fail
  go_ret
  refine ⟨_, rfl, ?_, HF.out⟩
  unfold IntRow
  rw [hl]
  simpa using HR.out

set_option maxRecDepth 100000 in
set_option maxHeartbeats 4000000 in
theorem snew_any (room : Int) (w : World) (h1 : 1 ≤ room) (h2 : room ≤ 100000) :
    Calls Tryz.prog 32 #[.int .i64 room] w fun e w' => e = .returned (.tuple #[.pointer (some ⟨w.heap.size, 0, none⟩), .int .i64 0]) ∧ Fr (fun _ => False) w w' := by
  go_enter Tryz.func32, Tryz.ntmps32
  go_wp2_with fail
  go_ret2
  exact ⟨rfl, (Fr.refl _ _).alloc _⟩

/-- A table without vars, of one row. -/
def UnitPost (w : World) (e : Ending) (w' : World) : Prop := ∃ vr vals, e = .returned (.agg #[.slice none 0 0, vr]) ∧ RowsAt w' w.heap.size vr vals [[]] ∧ Fr (fun _ => False) w w'

set_option maxRecDepth 100000 in
set_option maxHeartbeats 4000000 in
theorem unit_any (w : World) : Calls Tryz.prog 137 #[] w (UnitPost w) := by
  have hz1 : (w.alloc (.cells #[.slice none 0 0, .slice (some ⟨w.heap.size + 1 + 1, 0, none⟩) 1 1] 63)).heap.size = w.heap.size + 1 := by simp
  have hz2 : ((w.alloc (.cells #[.slice none 0 0, .slice (some ⟨w.heap.size + 1 + 1, 0, none⟩) 1 1] 63)).alloc (.cells #[] 3)).heap.size = w.heap.size + 1 + 1 := by simp
  have hb := ((Blk.new w 63 #[.slice none 0 0, .slice (some ⟨w.heap.size + 1 + 1, 0, none⟩) 1 1]).alloc (.cells #[] 3)).alloc (.cells #[.slice (some ⟨w.heap.size + 1, 0, none⟩) 0 0] 48)
  have h0 := World.ownsRow_lit (base := w.heap.size) (e := 3) (size := 1) (w.alloc (.cells #[.slice none 0 0, .slice (some ⟨w.heap.size + 1 + 1, 0, none⟩) 1 1] 63)) #[] 0 (by omega) (by decide) rfl
  have h1 := World.ownsRow_lit (base := w.heap.size) (e := 48) (size := 1) ((w.alloc (.cells #[.slice none 0 0, .slice (some ⟨w.heap.size + 1 + 1, 0, none⟩) 1 1] 63)).alloc (.cells #[] 3)) #[.slice (some ⟨w.heap.size + 1, 0, none⟩) 0 0] 1 (by omega) (by decide) rfl
  rw [hz1] at h0
  rw [hz2] at h1
  have F : Fr (fun _ => False) w (((w.alloc (.cells #[.slice none 0 0, .slice (some ⟨w.heap.size + 1 + 1, 0, none⟩) 1 1] 63)).alloc (.cells #[] 3)).alloc (.cells #[.slice (some ⟨w.heap.size + 1, 0, none⟩) 0 0] 48)) := (((Fr.refl _ _).alloc _).alloc _).alloc _
  have HB := Lib.hid hb
  have H0 := Lib.hid (h0.alloc (.cells #[.slice (some ⟨w.heap.size + 1, 0, none⟩) 0 0] 48))
  have H1 := Lib.hid h1
  have HF := Lib.hid F
  clear hb h0 h1 F hz1 hz2
  go_enter Tryz.func137, Tryz.ntmps137
  go_wp2_with fail
  exact bodyPost_ret (v := .agg #[.slice none 0 0, .slice (some ⟨w.heap.size + 1 + 1, 0, none⟩) 1 1]) (results_cell_row rfl _ _ w.heap.size 63 _ (0, 0) _ rfl HB.out Tryz.underlying63 rfl (by kernel_rfl)) rfl
    ⟨_, [.slice (some ⟨w.heap.size + 1, 0, none⟩) 0 0], rfl, ⟨H1.out, fun i hi => by
      have hi0 : i = 0 := by simp at hi; omega
      subst hi0
      exact H0.out⟩, HF.out⟩

set_option maxRecDepth 100000 in
set_option maxHeartbeats 4000000 in
theorem cloneI_nil (w : World) : Calls Tryz.prog 124 #[.slice none 0 0] w fun e w' => e = .returned (.slice none 0 0) ∧ w = w' := by
  have hq : ∀ w, (binOp .eql 48 (.slice none 0 0) (.slice none 0 0)).run Tryz.prog w = .ok (.bool true) w := fun w => by rfl
  go_enter Tryz.func124, Tryz.ntmps124
  go_wp2_with fail
  go_ret
  exact ⟨rfl, rfl⟩
theorem cloneI_all (B : Nat) (v : Value) (xs : List Int) (w : World) (hn : xs.length ≤ 4096) (hr : IntRow w B v xs) :
    Calls Tryz.prog 124 #[v] w fun e w' => ∃ v', e = .returned v' ∧ IntRow w' w.heap.size v' xs ∧ Fr (fun _ => False) w w' := by
  have hr0 := hr
  rcases hr0.2 with ⟨h1, h2⟩ | ⟨g, cap, cur, h1, _⟩
  · have hx : xs = [] := List.eq_nil_of_length_eq_zero h2
    subst hx
    subst h1
    exact (cloneI_nil w).mono (by rintro e w1 ⟨rfl, rfl⟩; exact ⟨_, rfl, World.ownsRow_nil _ _ _ _, Fr.refl _ _⟩)
  · subst h1
    exact cloneI_any _ cap B g xs w hn hr rfl
/-- Strings copied, or none. -/
theorem cloneN_any (n c B : Nat) (N : Option Addr) (ss : List ByteArray) (w : World) (hn : n ≤ 4096) (hN : n = 0 → N = none ∧ c = 0) (hs : w.ownsRow B 9 1 (.slice N n c) n (ss.map .string)) :
    Calls Tryz.prog 123 #[.slice N n c] w fun e w' => ∃ V c', e = .returned (.slice V n c') ∧ (n = 0 → V = none ∧ c' = 0) ∧ w'.ownsRow w.heap.size 9 1 (.slice V n c') n (ss.map .string) ∧ Fr (fun _ => False) w w' := by
  have hl : ss.length = n := by have := hs.1; simpa using this
  by_cases h0 : n = 0
  · subst h0
    obtain ⟨rfl, rfl⟩ := hN rfl
    have he : ss = [] := List.eq_nil_of_length_eq_zero hl
    subst he
    exact (clone_nil w).mono (by rintro e w1 ⟨rfl, rfl⟩; exact ⟨none, 0, rfl, fun _ => ⟨rfl, rfl⟩, World.ownsRow_nil _ _ _ _, Fr.refl _ _⟩)
  · obtain ⟨g, rfl, _, _, _⟩ := row_form hs (by omega)
    exact (clone_any g n c ss w (by omega) (by omega) (fun j hj => str_cell hs j hj) hl).mono (by rintro e w1 ⟨A, c', rfl, h1, h2⟩; exact ⟨_, c', rfl, fun h => absurd h h0, h1, h2⟩)

/-- A table of the same rows. -/
def FilterPost (w : World) (m : Nat) (ss : List ByteArray) (rows : List (List Int)) (e : Ending) (w' : World) : Prop :=
  ∃ V vc vr vals, e = .returned (.agg #[.slice V m vc, vr]) ∧ (m = 0 → V = none ∧ vc = 0) ∧ w'.ownsRow w.heap.size 9 1 (.slice V m vc) m (ss.map .string) ∧ RowsAt w' w.heap.size vr vals rows ∧ Fr (fun _ => False) w w'

set_option maxRecDepth 100000 in
set_option maxHeartbeats 4000000 in
theorem filter_any (F : Nat) (C : Array Value) (m vc B B2 : Nat) (V : Option Addr) (vr : Value) (vals : List Value) (rows : List (List Int)) (ss : List ByteArray) (w : World) (hm : m ≤ 4096) (hV : m = 0 → V = none ∧ vc = 0) (hn : rows.length ≤ 4096)
    (hl : ∀ i, i < rows.length → (rows.getD i []).length = m) (hs : w.ownsRow B 9 1 (.slice V m vc) m (ss.map .string)) (hr : RowsAt w B2 vr vals rows)
    (hen : ∀ args w, (callFunc F args).run Tryz.prog w = .ok (.enter F args) w) (hok : ∀ w1 i, i < rows.length → Fr (fun j => w.heap.size ≤ j) w w1 → Calls Tryz.prog F (#[.agg #[.slice V m vc, vr], vals.getD i undef] ++ C) w1 (IsB true w1)) :
    Calls Tryz.prog 66 #[.agg #[.slice V m vc, vr], .func (.func F) #[] C] w (FilterPost w m ss rows) := by
  have HCL := Lib.hid (fun w hs => cloneN_any m vc B V ss w hm hV hs)
  have HS := Lib.hid hs
  have HR := Lib.hid hr
  have HOK := Lib.hid hok
  have HL := Lib.hid hl
  obtain ⟨i48, hi48, hz480, hz481, hz482⟩ := info_parts info48
  obtain ⟨A, c, hvr⟩ := row_shape hr.own
  subst hvr
  clear hs hr hok hl
  go_enter Tryz.func66, Tryz.ntmps66
  go_wp2_with fail
  refine (HCL.out _ ((HS.out.alloc _).alloc _)).mono ?_
  rintro e w1 ⟨V1, vc1, rfl, hV1, hrow1, hf1⟩
  have hb0 := Blk.new w 63 #[.slice V m vc, .slice A rows.length c]
  have hb1 := Blk.new (w.alloc (.cells #[.slice V m vc, .slice A rows.length c] 63)) 63 #[.slice none 0 0, .slice none 0 0]
  have hz : (w.alloc (.cells #[.slice V m vc, .slice A rows.length c] 63)).heap.size = w.heap.size + 1 := by simp
  have hz2 : ((w.alloc (.cells #[.slice V m vc, .slice A rows.length c] 63)).alloc (.cells #[.slice none 0 0, .slice none 0 0] 63)).heap.size = w.heap.size + 2 := by simp
  rw [hz] at hb1
  have hsz1 := hf1.size
  rw [hz2] at hrow1 hsz1
  have F1 : Fr (fun j => w.heap.size ≤ j) w (w1.alloc (.cells #[.slice V1 m vc1, .slice none 0 0] 63)) := (((((Fr.refl _ w).alloc _).alloc _).trans hf1 (fun _ _ h => h.elim))).alloc _
  have START := Lib.hid (show ∃ (k : Nat) (vr : Value) (vals : List Value), Value.int .i64 0 = .int .i64 (k : Int) ∧ k ≤ rows.length ∧ Blk (w1.alloc (.cells #[.slice V1 m vc1, .slice none 0 0] 63)) w.heap.size 63 #[.slice V m vc, .slice A rows.length c] ∧ Blk (w1.alloc (.cells #[.slice V1 m vc1, .slice none 0 0] 63)) w1.heap.size 63 #[.slice V1 m vc1, vr] ∧ Blk (w1.alloc (.cells #[.slice V1 m vc1, .slice none 0 0] 63)) (w.heap.size + 1) 63 #[.slice none 0 0, .slice none 0 0] ∧ (w1.alloc (.cells #[.slice V1 m vc1, .slice none 0 0] 63)).ownsRow w.heap.size 9 1 (.slice V1 m vc1) m (ss.map .string) ∧ RowsAt (w1.alloc (.cells #[.slice V1 m vc1, .slice none 0 0] 63)) w.heap.size vr vals (rows.take k) ∧ Fr (fun j => w.heap.size ≤ j) w (w1.alloc (.cells #[.slice V1 m vc1, .slice none 0 0] 63)) from
    ⟨0, .slice none 0 0, [], rfl, Nat.zero_le _, ((hb0.alloc _).fr hf1 (fun h => h)).alloc _, Blk.new _ _ _, (hb1.fr hf1 (fun h => h)).alloc _, (ownsRow_base hrow1 (by omega)).alloc _, ⟨World.ownsRow_nil _ _ _ _, fun i hi => absurd hi (by simp)⟩, F1⟩)
  have c0 : (w1.alloc (.cells #[.slice V1 m vc1, .slice none 0 0] 63)).cell? ⟨w.heap.size, 1, none⟩ = some (.slice A rows.length c) := (((hb0.alloc _).fr hf1 (fun h => h)).alloc _).cell 1
  have c0' : w1.cell? ⟨w.heap.size, 1, none⟩ = some (.slice A rows.length c) := ((hb0.alloc _).fr hf1 (fun h => h)).cell 1
  have hlt1 : w.heap.size < w1.heap.size := by omega
  clear hb0 hb1 F1 hrow1 hf1 hz hz2
  go_wp2_with fail
  go_loopw [7, 15] (fun _ iv wr => ∃ (k : Nat) (vr : Value) (vals : List Value), iv = .int .i64 (k : Int) ∧ k ≤ rows.length ∧ Blk wr w.heap.size 63 #[.slice V m vc, .slice A rows.length c] ∧ Blk wr w1.heap.size 63 #[.slice V1 m vc1, vr] ∧ Blk wr (w.heap.size + 1) 63 #[.slice none 0 0, .slice none 0 0] ∧ wr.ownsRow w.heap.size 9 1 (.slice V1 m vc1) m (ss.map .string) ∧ RowsAt wr w.heap.size vr vals (rows.take k) ∧ Fr (fun j => w.heap.size ≤ j) w wr) (fun _ iv _ => rows.length - (intOf iv).toNat)
  case atStart => exact START.out
  case round =>
    obtain ⟨k, vr, vals2, rfl, hk, htb, hob, hcb, hvr, hra, hf⟩ := hrel
    have hszw := hf.size
    have HTB := Lib.hid htb
    have HOB := Lib.hid hob
    have HCB := Lib.hid hcb
    have HVR := Lib.hid hvr
    have HRA := Lib.hid hra
    have HF := Lib.hid hf
    have hrr := HR.out.fr hf (fun j hj h => absurd (HR.out.own.lt j hj).2 (by omega)) (fun i hi j hj h => absurd ((HR.out.each i hi).lt j hj).2 (by omega))
    by_cases hlt : k < rows.length
    · have hlt' : (k : Int) < (rows.length : Int) := by omega
      obtain ⟨ga, rfl, _, _, _⟩ := row_form hrr.own (by omega)
      have hck : wr.cell? ⟨ga, k, none⟩ = some (vals.getD k undef) := by
        rw [World.ownsRow.cellAt hrr.own k (by omega), List.getD_eq_getElem?_getD, List.getElem?_eq_getElem (by have := hrr.len; omega)]; rfl
      have hek := hrr.each k hlt
      obtain ⟨A2, c2, hv2⟩ := row_shape hek
      have HOKK := Lib.hid (HOK.out wr k hlt hf)
      have t0 : wr.cell? ⟨w.heap.size, 0, none⟩ = some (.slice V m vc) := htb.cell 0
      have t1 : wr.cell? ⟨w.heap.size, 1, none⟩ = some (.slice (some ⟨ga, 0, none⟩) rows.length c) := htb.cell 1
      rw [hv2] at hck hek HOKK
      rw [HL.out k hlt] at hck hek HOKK
      have HX := Lib.hid (show rows.take (k + 1) = rows.take k ++ [rows.getD k []] by rw [List.take_add_one, List.getD_eq_getElem?_getD, List.getElem?_eq_getElem (by omega)]; rfl)
      have hlk := HL.out k hlt
      generalize rows.getD k [] = rk at *
      have HLK := Lib.hid hlk
      have HEK := Lib.hid hek
      obtain ⟨A3, c3, hv3⟩ := row_shape hra.own
      subst hv3
      have hlen3 : (rows.take k).length = k := by simp; omega
      rw [hlen3] at HOB HRA
      clear hrr hek hcb hob htb hvr hra hf hv2 hlk
      go_wp2_with fail
      refine HOKK.out.mono ?_
      rintro e w2 ⟨rfl, hf2⟩
      have HF2 := Lib.hid hf2
      have b1 := (HOB.out.fr hf2 (fun h => h)).cell 1
      have b1f := (HOB.out.fr hf2 (fun h => h)).frozen 1
      have HCLR := Lib.hid (fun wy hr => cloneI_all B2 (.slice A2 m c2) rk wy (by rw [HLK.out]; exact hm) hr)
      have HF2D := Lib.hid (show Fr (fun _ => False) wr w2.drew from hf2.drew)
      have HRA2 := Lib.hid (HRA.out.frF HF2D.out)
      have HOB2 := Lib.hid (HOB.out.fr HF2D.out (fun h => h))
      have hne := own_blk_ne HRA.out.own HOB.out (by decide)
      have hlto := HOB.out.lt
      have hsz2 := hf2.size
      have hb1 : w.heap.size ≤ w2.heap.size := by omega
      clear hf2
      go_wp2_with fail
      go_region_law (first
        | (go_simp; go_at_call 124; refine (HCLR.out _ (HEK.out.fr HF2D.out (fun _ _ h => h))).mono ?_; rintro e w3 ⟨v3, rfl, hrow3, hf3⟩; obtain ⟨A4, c4, hv4⟩ := row_shape hrow3; subst hv4; have b2 := (HOB2.out.fr hf3 (fun h => h)).cell 1; have b2f := (HOB2.out.fr hf3 (fun h => h)).frozen 1; have HRA3 := Lib.hid (HRA2.out.frF hf3); have HOB3 := Lib.hid (HOB2.out.fr hf3 (fun h => h)); have hlo3 := HOB3.out.lt; have hsz3 := hf3.size; rw [show w2.drew.heap.size = w2.heap.size from rfl] at hsz3)
        | (refine step_append_lies _ (by rfl) _ _ 61 (by rfl) w.heap.size 48 i48 _ 1 24 Tryz.underlying61 hi48 hz480 hz481 hz482 rfl (by decide) (.slice A3 k c3) k vals2 (by rfl) (by have h := HRA3.out.own; rw [hlen3] at h; exact h.alloc _) ⟨w3.heap.size, 0, none⟩ 1 1 [.slice A4 rk.length c4] (by rfl) rfl (by exact World.news_of_block (heap_alloc_new w3 _)) (by intro u hu; rw [List.mem_singleton] at hu; rw [hu]; rfl) (by decide) (by unfold maxLen; omega) (by omega) (by simp; omega) (w3.heap.size + 1) (by simp) ?_; intro g cap w6 hown6 hgr6 hor6 hlt6; have hbl6 : Blk w6 w1.heap.size 63 _ := Blk.fr (HOB3.out.alloc _) (Fr.of_grown hgr6) hne; have d1 := hbl6.cell 1; have e1 := hbl6.frozen 1))
      all_goals
        have F6 : Fr (fun j => (Value.slice A3 k c3).ownBlock = some j) w3 w6 := ((Fr.refl _ w3).alloc _).trans (Fr.of_grown hgr6) (fun _ _ h => h)
        have F3 : Fr (fun _ => False) wr w3 := HF2D.out.trans' hf3
        have FS : Fr (fun j => j = w1.heap.size) w6 (w6.setCell ⟨w1.heap.size, 1, none⟩ (.slice (some ⟨g, 0, none⟩) (k + 1) cap)) := (Fr.refl (fun j => j = w1.heap.size) w6).setCell ⟨w1.heap.size, 1, none⟩ (fun _ => rfl) _
        have O7 := Lib.hid (show Blk (w6.setCell ⟨w1.heap.size, 1, none⟩ (.slice (some ⟨g, 0, none⟩) (k + 1) cap)) w1.heap.size 63 #[.slice V1 m vc1, .slice (some ⟨g, 0, none⟩) (k + 1) cap] from hbl6.set_ 1 _)
        have hr6 := HRA3.out.push hrow3 (by rw [show w2.drew.heap.size = w2.heap.size from rfl]; exact hb1) (.cells #[.slice A4 rk.length c4] 48) (by rw [hlen3]; exact hown6) hgr6
        rw [← HX.out] at hr6
        have R7 := Lib.hid (hr6.frB hbl6 (by decide) (by decide) FS)
        have T3 := HTB.out.fr F3 (fun h => h)
        have C3 := HCB.out.fr F3 (fun h => h)
        have V3 := ownsRow_fr HVR.out F3 (fun _ _ h => h)
        have hT := own_blk_ne HRA3.out.own T3 (by decide)
        have hC := own_blk_ne HRA3.out.own C3 (by decide)
        have T7 := Lib.hid ((T3.fr F6 (fun h => hT h)).fr FS (fun h => absurd h (by omega)))
        have C7 := Lib.hid ((C3.fr F6 (fun h => hC h)).fr FS (fun h => absurd h (by omega)))
        have V7 := Lib.hid (ownsRow_fr (ownsRow_fr V3 F6 (fun j hj h => row_row_ne HRA3.out.own V3 (by decide) h hj)) FS (fun j hj h => own_blk_ne V3 HOB3.out (by decide) (by rw [hj, h])))
        have F7 := Lib.hid (((HF.out.trans F3 (fun _ _ h => h.elim)).trans F6 (fun j _ h => (HRA3.out.own.lt j h).1)).trans FS (fun j _ h => by omega))
        clear F6 F3 FS hr6 T3 C3 V3 hT hC hbl6 d1 e1 hown6 hgr6 hor6 hlt6 hrow3 hf3 b2 b2f b1 b1f hne
        go_wp2_with fail
        go_roundw
        case rel => exact ⟨k + 1, _, _, by go_num, hlt, T7.out, O7.out, C7.out, V7.out, R7.out, F7.out⟩
        case measure => simp only [intOf]; omega
    · have hlt' : ¬ (k : Int) < (rows.length : Int) := by omega
      have hkn : k = rows.length := by omega
      subst hkn
      rw [List.take_length] at HRA
      obtain ⟨Ar, cr, hvr2⟩ := row_shape hra.own
      subst hvr2
      rw [List.take_length] at HOB HRA
      have t0 : wr.cell? ⟨w1.heap.size, 0, none⟩ = some (.slice V1 m vc1) := HOB.out.cell 0
      have t1 : wr.cell? ⟨w1.heap.size, 1, none⟩ = some (.slice Ar rows.length cr) := HOB.out.cell 1
      have hlcb := HCB.out.lt
      have f0 := HCB.out.frozen 0
      have f1 := HCB.out.frozen 1
      have cc0 : wr.cell? ⟨w.heap.size + 1, 0, none⟩ = some (.slice none 0 0) := HCB.out.cell 0
      have hb2 := HCB.out.set_ 0 (.slice V1 m vc1)
      have cc1 : (wr.setCell ⟨w.heap.size + 1, 0, none⟩ (.slice V1 m vc1)).cell? ⟨w.heap.size + 1, 1, none⟩ = some (.slice none 0 0) := hb2.cell 1
      have f12 : (wr.setCell ⟨w.heap.size + 1, 0, none⟩ (.slice V1 m vc1)).frozen? ⟨w.heap.size + 1, 1, none⟩ = false := hb2.frozen 1
      have cc12 : wr.cell? ⟨w.heap.size + 1, 1, none⟩ = some (.slice none 0 0) := HCB.out.cell 1
      have hl2 := hb2.lt
      have hb3 : Blk ((wr.setCell ⟨w.heap.size + 1, 0, none⟩ (.slice V1 m vc1)).setCell ⟨w.heap.size + 1, 1, none⟩ (.slice Ar rows.length cr)) (w.heap.size + 1) 63 #[.slice V1 m vc1, .slice Ar rows.length cr] := hb2.set_ 1 (.slice Ar rows.length cr)
      have FS : Fr (fun j => j = w.heap.size + 1) wr ((wr.setCell ⟨w.heap.size + 1, 0, none⟩ (.slice V1 m vc1)).setCell ⟨w.heap.size + 1, 1, none⟩ (.slice Ar rows.length cr)) := ((Fr.refl (fun j => j = w.heap.size + 1) wr).setCell ⟨w.heap.size + 1, 0, none⟩ (fun _ => rfl) _).setCell ⟨w.heap.size + 1, 1, none⟩ (fun _ => rfl) _
      have HB3 := Lib.hid hb3
      have HRA3 := Lib.hid (HRA.out.frB HCB.out (by decide) (by decide) FS)
      have HVR3 := Lib.hid (ownsRow_fr HVR.out FS (fun j hj e => own_blk_ne HVR.out HCB.out (by decide) (by rw [hj, e])))
      have HF3 := Lib.hid ((HF.out.trans FS (fun j _ h => by omega)).shut (Nat.le_refl _))
      clear hrr hb2 hb3 FS hob hcb htb hvr hra hf
      go_wp2_with fail
      exact bodyPost_ret (v := .agg #[.slice V1 m vc1, .slice Ar rows.length cr]) (results_cell_row rfl _ _ (w.heap.size + 1) 63 _ (0, 0) _ rfl HB3.out Tryz.underlying63 rfl (by kernel_rfl)) rfl ⟨V1, vc1, .slice Ar rows.length cr, vals2, rfl, hV1, HVR3.out, HRA3.out, HF3.out⟩

end Go.Proofs.YtebddgdkndmpjaaGreatDoor
