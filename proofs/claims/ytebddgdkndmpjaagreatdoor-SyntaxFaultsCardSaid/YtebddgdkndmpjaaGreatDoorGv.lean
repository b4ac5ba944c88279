/- A table made of rows: walked. -/
import Derived.Test.YtebddgdkndmpjaaGreatDoorGu
import Derived.Test.YtebddgdkndmpjaaGreatDoorGl
import Derived.Lib.Strings
import Derived.Deep.CutBlock
import Derived.Deep.RegionLawGrows
import Derived.Deep.Cut
import Derived.Deep.CutRange
import Derived.WalkKit
import Derived.WalkLawsBesides
import Derived.WalkSpells
import Derived.Deep.QuietTactic
import Derived.BigRegion
import Derived.BigQuiet
import Derived.Lib.Hide
import Derived.Outline
import Derived.Deep.AppendLies
import Derived.Deep.RegionLaw
import Derived.Deep.RegionWith
import Derived.Deep.RegionHeld3
import Derived.Deep.LoopGhost
import Derived.Deep.DeepFit
import Derived.Laws.ResultCell
import Derived.Laws.RangeAny
import Derived.Deep.MidRow
import Derived.StillTailTactics
import Derived.OpenShut
namespace Go.Proofs.YtebddgdkndmpjaaGreatDoor
set_option linter.unusedVariables false
open Go.RowKit Go


/-- A row of integers of the call's own. -/
def IntRow (w : World) (B : Nat) (v : Value) (xs : List Int) : Prop := w.ownsRow B 3 1 v xs.length (xs.map (.int .i64))
/-- Rows of integers. -/
structure RowsAt (w : World) (B : Nat) (vr : Value) (vals : List Value) (rows : List (List Int)) : Prop where
  own : w.ownsRow B 48 1 vr rows.length vals
  each : ∀ i, i < rows.length → IntRow w B (vals.getD i undef) (rows.getD i [])
theorem int_cell {w : World} {B g c : Nat} {xs : List Int} {n : Nat} (h : IntRow w B (.slice (some ⟨g, 0, none⟩) n c) xs) (j : Nat) (hj : j < xs.length) : w.cell? ⟨g, j, none⟩ = some (.int .i64 (xs.getD j 0)) := by
  have hn : n = xs.length := by
    obtain ⟨A, c', e⟩ := row_shape h
    injection e
  unfold IntRow at h
  subst hn
  rw [World.ownsRow.cellAt h j (by omega), List.getElem?_map, List.getD_eq_getElem?_getD]
  rw [List.getElem?_eq_getElem (by omega)]
  rfl

theorem str_cells {w : World} {B g n c : Nat} {ss : List ByteArray} (h : w.ownsRow B 9 1 (.slice (some ⟨g, 0, none⟩) n c) n (ss.map .string)) : ∀ j, j < ss.length → w.cell? ⟨g, 0 + j, none⟩ = some (.string (ss.getD j ByteArray.empty)) := by
  intro j hj
  rw [Nat.zero_add]
  have hl : ss.length = n := by have := h.1; simpa using this
  exact str_cell h j (by omega)

set_option maxRecDepth 100000 in
set_option maxHeartbeats 4000000 in
theorem of1_any (nb rb m c B rc : Nat) (N R : Option Addr) (ss : List ByteArray) (xs : List Int) (k : Nat) (w : World) (hl : ss.length = m) (hx : xs.length = m) (hk : k < m) (hm9 : m ≤ 9)
    (hd : ∀ j, j < k → ss.getD j ByteArray.empty ≠ ss.getD k ByteArray.empty)
    (hn : Blk w nb 28 #[.slice N m c]) (hb : Blk w rb 48 #[.slice R m rc])
    (hs : w.ownsRow B 9 1 (.slice N m c) m (ss.map .string)) (hi : IntRow w B (.slice R m rc) xs) :
    Calls Tryz.prog 75 #[.string (ss.getD k ByteArray.empty), .pointer (some ⟨nb, 0, none⟩), .pointer (some ⟨rb, 0, none⟩)] w fun e w' => e = .returned (.int .i64 (xs.getD k 0)) ∧ w' = w := by
  obtain ⟨g, rfl, _, _, _⟩ := row_form hs (by omega)
  have hi2 := hi
  unfold IntRow at hi2
  rw [hx] at hi2
  obtain ⟨rg, rfl, _, _, _⟩ := row_form hi2 (by omega)
  clear hi2
  have hcall := Tryz.slices_Index_string g 0 m c ss (ss.getD k ByteArray.empty) w (by omega) (by omega) (str_cells hs)
  rw [Lib.idxOfS_hit ss m k _ hk (by omega) rfl hd] at hcall
  have HC := Lib.hid hcall
  have hcell := int_cell hi k (by omega)
  have b0 := hn.cell 0
  have b1 := hb.cell 0
  simp only [List.getElem?_toArray, List.getElem?_cons_zero] at b0 b1
  have hk' : (k : Int) < (m : Int) := by omega
  generalize ss.getD k ByteArray.empty = x at *
  generalize xs.getD k 0 = y at *
  clear hcall hs hi hn hb hd
  go_enter Tryz.func75, Tryz.ntmps75
  go_wp2_with fail
  refine HC.out.mono ?_
  rintro e w1 ⟨rfl, rfl⟩
  go_wp2_with fail
  go_ret
  exact ⟨rfl, rfl⟩



theorem IntRow.fr {S : Nat → Prop} {w w' : World} {B : Nat} {v : Value} {xs : List Int} (h : IntRow w B v xs) (hf : Fr S w w') (hs : ∀ k, v.ownBlock = some k → ¬ S k) : IntRow w' B v xs := ownsRow_fr h hf hs
theorem row_row_ne {w : World} {B B' e e' s s' n n' : Nat} {v v' : Value} {xs xs' : List Value} (h : w.ownsRow B e s v n xs) (h' : w.ownsRow B' e' s' v' n' xs') (hne : e ≠ e') {k : Nat} (hk : v.ownBlock = some k) : v'.ownBlock ≠ some k := by
  rcases h.2 with ⟨rfl, _⟩ | ⟨g, cap, cur, rfl, _, hh, _⟩
  · cases hk
  · have : g = k := by simpa [Value.ownBlock] using hk
    subst this
    exact own_blk_ne h' (show Blk w g e cur from hh) (Ne.symm hne)
theorem RowsAt.fr {S : Nat → Prop} {w w' : World} {B : Nat} {vr : Value} {vals : List Value} {rows : List (List Int)} (h : RowsAt w B vr vals rows) (hf : Fr S w w') (h1 : ∀ k, vr.ownBlock = some k → ¬ S k)
    (h2 : ∀ i, i < rows.length → ∀ k, (vals.getD i undef).ownBlock = some k → ¬ S k) : RowsAt w' B vr vals rows :=
  ⟨ownsRow_fr h.own hf h1, fun i hi => (h.each i hi).fr hf (h2 i hi)⟩
theorem RowsAt.frF {w w' : World} {B : Nat} {vr : Value} {vals : List Value} {rows : List (List Int)} (h : RowsAt w B vr vals rows) (hf : Fr (fun _ => False) w w') : RowsAt w' B vr vals rows :=
  h.fr hf (fun _ _ h => h) (fun _ _ _ _ h => h)
theorem RowsAt.len {w : World} {B : Nat} {vr : Value} {vals : List Value} {rows : List (List Int)} (h : RowsAt w B vr vals rows) : vals.length = rows.length := by have := h.own.1; simpa using this
theorem ownsRow_base {w : World} {B B' e size n : Nat} {v : Value} {xs : List Value} (h : w.ownsRow B e size v n xs) (hB : B' ≤ B) : w.ownsRow B' e size v n xs := by
  refine ⟨h.1, ?_⟩
  rcases h.2 with hn | ⟨g, cap, cur, rfl, hb, hgg, rest⟩
  · exact .inl hn
  · exact .inr ⟨g, cap, cur, rfl, Nat.le_trans hB hb, hgg, rest⟩
theorem RowsAt.base {w : World} {B B' : Nat} {vr : Value} {vals : List Value} {rows : List (List Int)} (h : RowsAt w B vr vals rows) (hB : B' ≤ B) : RowsAt w B' vr vals rows :=
  ⟨ownsRow_base h.own hB, fun i hi => ownsRow_base (h.each i hi) hB⟩
theorem RowsAt.frB {w w' : World} {B tb : Nat} {vr : Value} {vals : List Value} {rows : List (List Int)} {t : TypeId} {cs : Array Value} (h : RowsAt w B vr vals rows) (hb : Blk w tb t cs) (h48 : 48 ≠ t) (h3 : 3 ≠ t) (hf : Fr (fun j => j = tb) w w') : RowsAt w' B vr vals rows :=
  h.fr hf (fun k hk e => own_blk_ne h.own hb h48 (by rw [hk, e])) (fun i hi k hk e => own_blk_ne (h.each i hi) hb h3 (by rw [hk, e]))
theorem RowsAt.push {w w6 : World} {B H : Nat} {vr v6 nv : Value} {vals : List Value} {rows : List (List Int)} {xs : List Int} (h : RowsAt w B vr vals rows) (hn : IntRow w H nv xs) (hBH : B ≤ H) (o : Obj)
    (hown : w6.ownsRow B 48 1 v6 (rows.length + 1) (vals ++ [nv])) (hg : (w.alloc o).grownBy w6 vr.ownBlock) : RowsAt w6 B v6 (vals ++ [nv]) (rows ++ [xs]) := by
  have hf : Fr (fun j => vr.ownBlock = some j) w w6 := ((Fr.refl _ w).alloc o).trans (Fr.of_grown hg) (fun _ _ h => h)
  have hl := h.len
  refine ⟨by rw [List.length_append]; exact hown, fun i hi => ?_⟩
  rw [List.length_append, List.length_singleton] at hi
  by_cases hlt : i < rows.length
  · have e1 : (vals ++ [nv]).getD i undef = vals.getD i undef := by rw [List.getD_eq_getElem?_getD, List.getElem?_append_left (by omega), ← List.getD_eq_getElem?_getD]
    have e2 : (rows ++ [xs]).getD i [] = rows.getD i [] := by rw [List.getD_eq_getElem?_getD, List.getElem?_append_left (by omega), ← List.getD_eq_getElem?_getD]
    rw [e1, e2]
    exact (h.each i hlt).fr hf (fun k hk e => row_row_ne h.own (h.each i hlt) (by decide) e hk)
  · have hi2 : i = rows.length := by omega
    subst hi2
    have e1 : (vals ++ [nv]).getD rows.length undef = nv := by rw [List.getD_eq_getElem?_getD, List.getElem?_append_right (by omega), hl]; simp
    have e2 : (rows ++ [xs]).getD rows.length [] = xs := by rw [List.getD_eq_getElem?_getD, List.getElem?_append_right (by omega)]; simp
    rw [e1, e2]
    exact ownsRow_base (hn.fr hf (fun k hk e => row_row_ne h.own hn (by decide) e hk)) hBH
theorem getD_push {vals : List Value} {nv : Value} {n : Nat} (hl : vals.length = n) : (∀ i, i < n → (vals ++ [nv]).getD i undef = vals.getD i undef) ∧ (vals ++ [nv]).getD n undef = nv :=
  ⟨fun i hi => by rw [List.getD_eq_getElem?_getD, List.getElem?_append_left (by omega), ← List.getD_eq_getElem?_getD],
    by rw [List.getD_eq_getElem?_getD, List.getElem?_append_right (by omega), hl]; simp⟩
theorem info3 : (Tryz.prog.info? 3).map (fun i => (i.zero, i.size, i.bytes)) = some (some (.int .i64 0), 1, 8) := by kernel_rfl
theorem info48 : (Tryz.prog.info? 48).map (fun i => (i.zero, i.size, i.bytes)) = some (some (.slice none 0 0), 1, 24) := by kernel_rfl

def RowPost (w : World) (B tb m vc : Nat) (V : Option Addr) (vr : Value) (vals : List Value) (rows : List (List Int)) (xs : List Int) (e : Ending) (w' : World) : Prop :=
  e = .returned (.tuple #[]) ∧ ∃ vr' vals', Blk w' tb 63 #[.slice V m vc, vr'] ∧ RowsAt w' B vr' vals' (rows ++ [xs]) ∧ Fr (fun j => j = tb ∨ vr.ownBlock = some j) w w' ∧
    (∀ k, vr'.ownBlock = some k → vr.ownBlock = some k ∨ w.heap.size ≤ k) ∧ (∀ i, i < rows.length → vals'.getD i undef = vals.getD i undef) ∧ (∀ k, (vals'.getD rows.length undef).ownBlock = some k → w.heap.size ≤ k)

set_option maxRecDepth 100000 in
set_option maxHeartbeats 4000000 in
theorem row_any (tb nb rb m vc c B Bn rc : Nat) (V N R : Option Addr) (vr : Value) (vals : List Value) (rows : List (List Int)) (ss : List ByteArray) (xs : List Int) (w : World) (hl : ss.length = m) (hx : xs.length = m) (hxm : ∀ k, k < m → -1 ≤ xs.getD k 0)
    (hm9 : m ≤ 9) (hB : B ≤ w.heap.size) (hrows : rows.length ≤ 4096)
    (hd : ∀ k, k < m → ∀ j, j < k → ss.getD j ByteArray.empty ≠ ss.getD k ByteArray.empty)
    (hn : Blk w nb 28 #[.slice N m c]) (hb : Blk w rb 48 #[.slice R m rc])
    (hs : w.ownsRow Bn 9 1 (.slice N m c) m (ss.map .string)) (hi : IntRow w Bn (.slice R m rc) xs)
    (ht : Blk w tb 63 #[.slice V m vc, vr]) (hv : w.ownsRow B 9 1 (.slice V m vc) m (ss.map .string)) (hr : RowsAt w B vr vals rows) :
    Calls Tryz.prog 74 #[.pointer (some ⟨tb, 0, none⟩), .func (.func 75) #[] #[.pointer (some ⟨nb, 0, none⟩), .pointer (some ⟨rb, 0, none⟩)]] w (RowPost w B tb m vc V vr vals rows xs) := by
  obtain ⟨A0, c0, hvt⟩ := row_shape hr.own
  subst hvt
  obtain ⟨i3, hi3, hz30, hz31, hz32⟩ := info_parts info3
  obtain ⟨i48, hi48, hz480, hz481, hz482⟩ := info_parts info48
  have t0 := ht.cell 0
  have t1 := ht.cell 1
  have t2 := ht.frozen 1
  simp only [List.getElem?_toArray, List.getElem?_cons_zero, List.getElem?_cons_succ] at t0 t1
  have HS := Lib.hid hs
  have HI := Lib.hid hi
  have HN := Lib.hid hn
  have HB := Lib.hid hb
  have HT := Lib.hid ht
  have HV := Lib.hid hv
  have HR := Lib.hid hr
  have HD := Lib.hid hd
  have HXM := Lib.hid hxm
  clear hs hi hn hb ht hv hr hd hxm
  go_enter Tryz.func74, Tryz.ntmps74
  go_wp2_with (refine wpList_make_own _ rfl _ _ 48 rfl w.heap.size 3 i3 _ 1 Tryz.underlying48 hi3 hz30 hz31 .i64 .i64 m m (by rfl) (by rfl) rfl (by rw [hz32]; omega) (by unfold maxLen; omega) (Nat.le_refl _) ?_; intro w1 hown1 hgr1; have HF1 := Lib.hid (show Fr (fun _ => False) w w1 from (Fr.of_grown hgr1).mono (fun _ _ h => by cases h)); have t01 := cell_fr HF1.out t0; have t11 := cell_fr HF1.out t1)
  have HOWN1 := Lib.hid hown1
  clear hown1 hgr1
  go_loopw [4, 18] (fun ov iv wr => ∃ k : Nat, ov = .slice (some ⟨w.heap.size, 0, none⟩) k m ∧ iv = .int .i64 (k : Int) ∧ k ≤ m ∧ wr.ownsRow w.heap.size 3 1 (.slice (some ⟨w.heap.size, 0, none⟩) k m) k ((xs.take k).map (.int .i64)) ∧ Fr (fun j => w.heap.size ≤ j) w wr) (fun _ iv _ => m - (intOf iv).toNat)
  case atStart => exact ⟨0, rfl, rfl, by omega, by simpa using HOWN1.out, HF1.out.mono (fun _ _ h => h.elim)⟩
  case round =>
    obtain ⟨k, rfl, rfl, hk, hrow, hf⟩ := hrel
    have HF := Lib.hid hf
    have HROW := Lib.hid hrow
    have hsz := hf.size
    clear t01 t11
    by_cases hlt : k < m
    · have hlt' : (k : Int) < (m : Int) := by omega
      obtain ⟨vg, rfl, _, _, _⟩ := row_form HV.out (by omega)
      have cv : wr.cell? ⟨vg, k, none⟩ = some (.string (ss.getD k ByteArray.empty)) := str_cell (ownsRow_fr HV.out hf (fun j hj h => absurd (HV.out.lt j hj).2 (by omega))) k hlt
      have HC := Lib.hid (of1_any nb rb m c Bn rc N R ss xs k wr hl hx hlt hm9 (HD.out k hlt) (HN.out.fr hf (fun h => absurd HN.out.lt (by omega))) (HB.out.fr hf (fun h => absurd HB.out.lt (by omega))) (ownsRow_fr HS.out hf (fun j hj h => absurd (HS.out.lt j hj).2 (by omega))) (HI.out.fr hf (fun j hj h => absurd (HI.out.lt j hj).2 (by omega))))
      have hxk := HXM.out k hlt
      have HX := Lib.hid (show xs.take (k + 1) = xs.take k ++ [xs.getD k 0] by rw [List.take_add_one, List.getD_eq_getElem?_getD, List.getElem?_eq_getElem (by omega)]; rfl)
      generalize ss.getD k ByteArray.empty = x at *
      generalize xs.getD k 0 = y at *
      clear hf hrow
      go_wp2_with fail
      refine HC.out.mono ?_
      rintro e w2 ⟨rfl, rfl⟩
      go_wp2_with (at_builtin; refine wpList_append_fits _ rfl _ _ 48 rfl w.heap.size 3 i3 1 Tryz.underlying48 hi3 hz31 w.heap.size k m ((xs.take k).map (.int .i64)) (by rfl) (HROW.out.alloc _) ⟨w2.heap.size, 0, none⟩ 1 1 [.int .i64 (max y (-1))] (by rfl) rfl (World.news_of_block (heap_alloc_new w2 _)) (by intro u hu; rw [List.mem_singleton] at hu; rw [hu]; rfl) (by omega) ?_; intro w3 hown3 hgr3)
      have HF3 := Lib.hid ((HF.out.alloc (.cells #[.int .i64 (max y (-1))] 3)).grown hgr3 (fun j hj e => by injection e with e; omega))
      have HR3 := Lib.hid hown3
      clear hown3 hgr3
      go_wp2_with fail
      go_roundw
      case rel => exact ⟨k + 1, rfl, by go_num, by omega, by rw [HX.out, List.map_append, List.map_singleton, ← Int.max_eq_left hxk]; exact HR3.out, HF3.out⟩
      case measure => simp [intOf]; omega
    · have hlt' : ¬ (k : Int) < (m : Int) := by omega
      have hk3 : m = k := by omega
      subst hk3
      have hb3 := HT.out.fr hf (fun h => absurd HT.out.lt (by omega))
      have hr3 := HR.out.fr hf (fun j hj h => absurd (HR.out.own.lt j hj).2 (by omega)) (fun i hi j hj h => absurd ((HR.out.each i hi).lt j hj).2 (by omega))
      have hrow3 : IntRow wr w.heap.size (.slice (some ⟨w.heap.size, 0, none⟩) m m) xs := by
        unfold IntRow
        rw [hx]
        rw [List.take_of_length_le (by omega)] at hrow
        exact hrow
      have HR3 := Lib.hid hr3
      have HB3 := Lib.hid hb3
      have HROW3 := Lib.hid hrow3
      have c0f : wr.cell? ⟨tb, 0, none⟩ = some (.slice V m vc) := hb3.cell 0
      have c1f : wr.cell? ⟨tb, 1, none⟩ = some (.slice A0 rows.length c0) := hb3.cell 1
      clear hf hrow hr3 hrow3 hb3
      go_wp2_with (at_builtin; refine wpList_append_own_at _ rfl _ _ 61 rfl B 48 i48 _ 1 24 Tryz.underlying61 hi48 hz480 hz481 hz482 rfl (by decide) _ rows.length vals (by rfl) (HR3.out.own.alloc _) ⟨wr.heap.size, 0, none⟩ 1 1 [.slice (some ⟨w.heap.size, 0, none⟩) m m] (by rfl) rfl (World.news_of_block (heap_alloc_new wr _)) (by intro u hu; rw [List.mem_singleton] at hu; rw [hu]; rfl) (by unfold maxLen; omega) (by omega) (by simp; omega) ?_; intro v6 w6 hown6 hgr6 _ hat6; obtain ⟨A6, c6, hv6⟩ := row_shape hown6; subst hv6; have hb6 := (HB3.out.alloc (.cells #[.slice (some ⟨w.heap.size, 0, none⟩) m m] 48)).fr (Fr.of_grown hgr6) (fun h => own_blk_ne HR3.out.own HB3.out (by decide) h); have f16 : w6.frozen? ⟨tb, 1, none⟩ = false := hb6.frozen 1; have c16 : w6.cell? ⟨tb, 1, none⟩ = some (.slice A0 rows.length c0) := hb6.cell 1; have hbl6 := hb6.lt; have HB6 := Lib.hid hb6; clear hb6)
      have hb7 := HB6.out.set_ 1 (.slice A6 (rows.length + 1) c6)
      have hr6 := HR3.out.push HROW3.out hB _ hown6 hgr6
      have HR7 := Lib.hid (hr6.frB HB6.out (by decide) (by decide) ((Fr.refl (fun j => j = tb) w6).setCell ⟨tb, 1, none⟩ (fun _ => rfl) (.slice A6 (rows.length + 1) c6)))
      have HB7 := Lib.hid (show Blk (w6.setCell ⟨tb, 1, none⟩ (.slice A6 (rows.length + 1) c6)) tb 63 #[.slice V m vc, .slice A6 (rows.length + 1) c6] from hb7)
      have F6 : Fr (fun j => j = tb ∨ (Value.slice A0 rows.length c0).ownBlock = some j) w w6 := by
        have h1 : Fr (fun j => w.heap.size ≤ j ∨ (Value.slice A0 rows.length c0).ownBlock = some j) w w6 := ((HF.out.mono (fun _ _ h => .inl h)).alloc (.cells #[.slice (some ⟨w.heap.size, 0, none⟩) m m] 48)).trans (Fr.of_grown hgr6) (fun i hi e => .inr e)
        exact h1.mono (fun j hj h => h.elim (fun h => absurd hj (by omega)) .inr)
      have HF7 := Lib.hid (F6.setCell ⟨tb, 1, none⟩ (fun _ => .inl rfl) (.slice A6 (rows.length + 1) c6))
      have HAT := Lib.hid hat6
      have HG := Lib.hid (getD_push (nv := .slice (some ⟨w.heap.size, 0, none⟩) m m) HR3.out.len)
      clear hown6 hgr6 hat6 hr6 hb7 F6
      go_wp2_with fail
      go_end0
      refine ⟨rfl, _, _, HB7.out, HR7.out, HF7.out, fun k hk => ?_, HG.out.1, fun k hk => ?_⟩
      · rcases HAT.out with h | h
        · left; rw [← h]; exact hk
        · right
          rw [h] at hk
          injection hk with hk
          simp at hk
          omega
      · rw [HG.out.2] at hk
        injection hk with hk
        exact Nat.le_of_eq hk



/-- A table. -/
def IsTable (w : World) (B m : Nat) (tv : Value) (ss : List ByteArray) (rows : List (List Int)) : Prop :=
  ∃ V vc vr vals, tv = .agg #[.slice V m vc, vr] ∧ w.ownsRow B 9 1 (.slice V m vc) m (ss.map .string) ∧ RowsAt w B vr vals rows
def OfPost (w : World) (m : Nat) (ss : List ByteArray) (rows : List (List Int)) (e : Ending) (w' : World) : Prop :=
  ∃ tv, e = .returned tv ∧ IsTable w' w.heap.size m tv ss rows ∧ Fr (fun _ => False) w w'

set_option maxRecDepth 100000 in
set_option maxHeartbeats 4000000 in
theorem of_any (m c B : Nat) (N : Option Addr) (vr0 : Value) (vals0 : List Value) (ss : List ByteArray) (rows : List (List Int)) (w : World) (hm9 : m ≤ 9) (hN : m = 0 → N = none ∧ c = 0) (hl : ss.length = m)
    (hr1 : ∀ j, j + 1 < m → Op.bytesLess (ss.getD (j + 1) ByteArray.empty).toList (ss.getD j ByteArray.empty).toList = false)
    (hr2 : ∀ j, j + 1 < m → ((ss.getD (j + 1) ByteArray.empty).toList == (ss.getD j ByteArray.empty).toList) = false)
    (hd : ∀ k, k < m → ∀ j, j < k → ss.getD j ByteArray.empty ≠ ss.getD k ByteArray.empty)
    (hlen : ∀ i, i < rows.length → (rows.getD i []).length = m) (hm : ∀ i, i < rows.length → ∀ k, k < m → -1 ≤ (rows.getD i []).getD k 0) (hn : rows.length ≤ 4096)
    (hs : w.ownsRow B 9 1 (.slice N m c) m (ss.map .string)) (hr : RowsAt w B vr0 vals0 rows) :
    Calls Tryz.prog 26 #[.slice N m c, vr0] w (OfPost w m ss rows) := by
  obtain ⟨A0, c0, hvt⟩ := row_shape hr.own
  subst hvt
  have HV := Lib.hid (fun w hs => varsN_any m c B N ss w hm9 hN hs hr1 hr2)
  have HS := Lib.hid hs
  have HR := Lib.hid hr
  have HLEN := Lib.hid hlen
  have HM := Lib.hid hm
  have HD := Lib.hid hd
  clear hs hr hlen hm hr1 hr2 hd
  go_enter Tryz.func26, Tryz.ntmps26
  go_wp2_with fail
  refine (HV.out _ ((HS.out.alloc _).alloc _)).mono ?_
  rintro e w1 ⟨V, vc, rfl, hrow1, hf1⟩
  have hb0 := Blk.new w 28 #[.slice N m c]
  have hb1 := Blk.new (w.alloc (.cells #[.slice N m c] 28)) 63 #[.slice none 0 0, .slice none 0 0]
  have hz : (w.alloc (.cells #[.slice N m c] 28)).heap.size = w.heap.size + 1 := by simp
  have hz2 : ((w.alloc (.cells #[.slice N m c] 28)).alloc (.cells #[.slice none 0 0, .slice none 0 0] 63)).heap.size = w.heap.size + 2 := by simp
  rw [hz] at hb1
  have hsz1 := hf1.size
  rw [hz2] at hrow1 hsz1
  have F1 : Fr (fun j => w.heap.size ≤ j) w (w1.alloc (.cells #[.slice V m vc, .slice none 0 0] 63)) := (((((Fr.refl _ w).alloc _).alloc _).trans hf1 (fun _ _ h => h.elim))).alloc _
  have START := Lib.hid (show ∃ (k : Nat) (vr : Value) (vals : List Value), Value.int .i64 0 = .int .i64 (k : Int) ∧ k ≤ rows.length ∧ Blk (w1.alloc (.cells #[.slice V m vc, .slice none 0 0] 63)) w.heap.size 28 #[.slice N m c] ∧ Blk (w1.alloc (.cells #[.slice V m vc, .slice none 0 0] 63)) w1.heap.size 63 #[.slice V m vc, vr] ∧ Blk (w1.alloc (.cells #[.slice V m vc, .slice none 0 0] 63)) (w.heap.size + 1) 63 #[.slice none 0 0, .slice none 0 0] ∧ (w1.alloc (.cells #[.slice V m vc, .slice none 0 0] 63)).ownsRow w.heap.size 9 1 (.slice V m vc) m (ss.map .string) ∧ RowsAt (w1.alloc (.cells #[.slice V m vc, .slice none 0 0] 63)) w.heap.size vr vals (rows.take k) ∧ Fr (fun j => w.heap.size ≤ j) w (w1.alloc (.cells #[.slice V m vc, .slice none 0 0] 63)) from
    ⟨0, .slice none 0 0, [], rfl, Nat.zero_le _, ((hb0.alloc _).fr hf1 (fun h => h)).alloc _, Blk.new _ _ _, (hb1.fr hf1 (fun h => h)).alloc _, (ownsRow_base hrow1 (by omega)).alloc _, ⟨World.ownsRow_nil _ _ _ _, fun i hi => absurd hi (by simp)⟩, F1⟩)
  clear hb0 hb1 F1 hrow1 hf1 hz hz2
  go_wp2_with fail
  go_loopw [7, 13] (fun _ iv wr => ∃ (k : Nat) (vr : Value) (vals : List Value), iv = .int .i64 (k : Int) ∧ k ≤ rows.length ∧ Blk wr w.heap.size 28 #[.slice N m c] ∧ Blk wr w1.heap.size 63 #[.slice V m vc, vr] ∧ Blk wr (w.heap.size + 1) 63 #[.slice none 0 0, .slice none 0 0] ∧ wr.ownsRow w.heap.size 9 1 (.slice V m vc) m (ss.map .string) ∧ RowsAt wr w.heap.size vr vals (rows.take k) ∧ Fr (fun j => w.heap.size ≤ j) w wr) (fun _ iv _ => rows.length - (intOf iv).toNat)
  case atStart => exact START.out
  case round =>
    obtain ⟨k, vr, vals, rfl, hk, hnb, htb, hcb, hvr, hra, hf⟩ := hrel
    have hszw := hf.size
    have HNB := Lib.hid hnb
    have HTB := Lib.hid htb
    have HCB := Lib.hid hcb
    have HVR := Lib.hid hvr
    have HRA := Lib.hid hra
    have HF := Lib.hid hf
    have hrr := HR.out.fr hf (fun j hj h => absurd (HR.out.own.lt j hj).2 (by omega)) (fun i hi j hj h => absurd ((HR.out.each i hi).lt j hj).2 (by omega))
    have HSW := Lib.hid (ownsRow_fr HS.out hf (fun j hj h => absurd (HS.out.lt j hj).2 (by omega)))
    clear hnb hcb hvr hra hf
    by_cases hlt : k < rows.length
    · have hlt' : (k : Int) < (rows.length : Int) := by omega
      have hcell := World.ownsRow.cellAt (g := 0) (w := wr) (base := B) (e := 48) (size := 1) (n := rows.length) (cap := c0) (xs := vals0)
      obtain ⟨ga, rfl, _, _, _⟩ := row_form hrr.own (by omega)
      have hck : wr.cell? ⟨ga, k, none⟩ = some (vals0.getD k undef) := by
        rw [World.ownsRow.cellAt hrr.own k (by omega), List.getD_eq_getElem?_getD, List.getElem?_eq_getElem (by have := hrr.len; omega)]; rfl
      have hek := hrr.each k hlt
      obtain ⟨R, rc, hvk⟩ := row_shape hek
      rw [hvk] at hck hek
      rw [HLEN.out k hlt] at hck hek
      have HEK := Lib.hid hek
      have HT := Lib.hid (show rows.take (k + 1) = rows.take k ++ [rows.getD k []] by rw [List.take_add_one, List.getD_eq_getElem?_getD, List.getElem?_eq_getElem (by omega)]; rfl)
      have HROW := Lib.hid (fun wy (hy : wy = wr.alloc (.cells #[.slice R m rc] 48)) => row_any w1.heap.size w.heap.size wr.heap.size m vc c w.heap.size B rc V N R vr vals (rows.take k) ss (rows.getD k []) wy hl (HLEN.out k hlt) (HM.out k hlt) hm9 (by rw [hy]; simp; omega) (by simp; omega) HD.out (by rw [hy]; exact HNB.out.alloc _) (by rw [hy]; exact Blk.new _ _ _) (by rw [hy]; exact HSW.out.alloc _) (by rw [hy]; exact HEK.out.alloc _) (by rw [hy]; exact HTB.out.alloc _) (by rw [hy]; exact HVR.out.alloc _) (by rw [hy]; exact HRA.out.frF ((Fr.refl _ _).alloc _)))
      clear hrr hek hcell htb
      go_wp2_with fail
      refine (HROW.out _ rfl).mono ?_
      rintro e w2 ⟨rfl, vr2, vals2, hb2, hr2, hf2, ho2, hk2, hv2⟩
      have F2 : Fr (fun j => j = w1.heap.size ∨ vr.ownBlock = some j) wr w2 := ((Fr.refl _ wr).alloc _).trans hf2 (fun _ _ h => h)
      have hra := HRA.out
      have htb := HTB.out
      have hltn := HNB.out.lt
      have hltc := HCB.out.lt
      have N2 : Blk w2 w.heap.size 28 #[.slice N m c] := HNB.out.fr F2 (fun h => h.elim (fun h => by omega) (fun h => own_blk_ne hra.own HNB.out (by decide) h))
      have C2 : Blk w2 (w.heap.size + 1) 63 #[.slice none 0 0, .slice none 0 0] := HCB.out.fr F2 (fun h => h.elim (fun h => by omega) (fun h => own_blk_ne hra.own HCB.out (by decide) h))
      have V2 := ownsRow_fr HVR.out F2 (fun j hj h => h.elim (fun h => own_blk_ne HVR.out HTB.out (by decide) (by rw [hj, h])) (fun h => row_row_ne hra.own HVR.out (by decide) h hj))
      have F3 : Fr (fun j => w.heap.size ≤ j) w w2 := HF.out.trans F2 (fun j _ h => h.elim (fun h => by omega) (fun h => (hra.own.lt j h).1))
      rw [← HT.out] at hr2
      have NEXT := Lib.hid (show ∃ (k' : Nat) (vr : Value) (vals : List Value), Value.int .i64 ((k : Int) + 1) = .int .i64 (k' : Int) ∧ k' ≤ rows.length ∧ Blk w2 w.heap.size 28 #[.slice N m c] ∧ Blk w2 w1.heap.size 63 #[.slice V m vc, vr] ∧ Blk w2 (w.heap.size + 1) 63 #[.slice none 0 0, .slice none 0 0] ∧ w2.ownsRow w.heap.size 9 1 (.slice V m vc) m (ss.map .string) ∧ RowsAt w2 w.heap.size vr vals (rows.take k') ∧ Fr (fun j => w.heap.size ≤ j) w w2 from
        ⟨k + 1, vr2, vals2, by go_num, hlt, N2, hb2, C2, V2, hr2, F3⟩)
      clear F2 hra htb hltn hltc N2 C2 V2 F3 hr2 hb2 hf2 ho2 hk2 hv2
      go_wp2_with fail
      go_roundw
      case rel => exact NEXT.out
      case measure => simp [intOf]; omega
    · have hlt' : ¬ (k : Int) < (rows.length : Int) := by omega
      have hkn : k = rows.length := by omega
      subst hkn
      rw [List.take_length] at HRA
      obtain ⟨Ar, cr, hvr⟩ := row_shape HRA.out.own
      subst hvr
      have t0 : wr.cell? ⟨w1.heap.size, 0, none⟩ = some (.slice V m vc) := HTB.out.cell 0
      have t1 : wr.cell? ⟨w1.heap.size, 1, none⟩ = some (.slice Ar rows.length cr) := HTB.out.cell 1
      have hlcb := HCB.out.lt
      have f0 := HCB.out.frozen 0
      have f1 := HCB.out.frozen 1
      have cc0 : wr.cell? ⟨w.heap.size + 1, 0, none⟩ = some (.slice none 0 0) := HCB.out.cell 0
      have hb2 := HCB.out.set_ 0 (.slice V m vc)
      have cc1 : (wr.setCell ⟨w.heap.size + 1, 0, none⟩ (.slice V m vc)).cell? ⟨w.heap.size + 1, 1, none⟩ = some (.slice none 0 0) := hb2.cell 1
      have f12 : (wr.setCell ⟨w.heap.size + 1, 0, none⟩ (.slice V m vc)).frozen? ⟨w.heap.size + 1, 1, none⟩ = false := hb2.frozen 1
      have cc12 : wr.cell? ⟨w.heap.size + 1, 1, none⟩ = some (.slice none 0 0) := HCB.out.cell 1
      have hl2 := hb2.lt
      have hb3 : Blk ((wr.setCell ⟨w.heap.size + 1, 0, none⟩ (.slice V m vc)).setCell ⟨w.heap.size + 1, 1, none⟩ (.slice Ar rows.length cr)) (w.heap.size + 1) 63 #[.slice V m vc, .slice Ar rows.length cr] := hb2.set_ 1 (.slice Ar rows.length cr)
      have FS : Fr (fun j => j = w.heap.size + 1) wr ((wr.setCell ⟨w.heap.size + 1, 0, none⟩ (.slice V m vc)).setCell ⟨w.heap.size + 1, 1, none⟩ (.slice Ar rows.length cr)) := ((Fr.refl (fun j => j = w.heap.size + 1) wr).setCell ⟨w.heap.size + 1, 0, none⟩ (fun _ => rfl) _).setCell ⟨w.heap.size + 1, 1, none⟩ (fun _ => rfl) _
      have HB3 := Lib.hid hb3
      have HRA3 := Lib.hid (HRA.out.frB HCB.out (by decide) (by decide) FS)
      have HVR3 := Lib.hid (ownsRow_fr HVR.out FS (fun j hj e => own_blk_ne HVR.out HCB.out (by decide) (by rw [hj, e])))
      have HF3 := Lib.hid ((HF.out.trans FS (fun j _ h => by omega)).shut (Nat.le_refl _))
      clear hrr htb hb2 hb3 FS
      go_wp2_with fail
      exact bodyPost_ret (v := .agg #[.slice V m vc, .slice Ar rows.length cr]) (results_cell_row rfl _ _ (w.heap.size + 1) 63 _ (0, 0) _ rfl HB3.out Tryz.underlying63 rfl (by kernel_rfl)) rfl ⟨_, rfl, ⟨V, vc, .slice Ar rows.length cr, vals, rfl, HVR3.out, HRA3.out⟩, HF3.out⟩

end Go.Proofs.YtebddgdkndmpjaaGreatDoor
