/- Columns, names in order, the rows of a query without folds: walked. -/
import Derived.Test.YtebddgdkndmpjaaGreatDoorDf
import Derived.Test.YtebddgdkndmpjaaGreatDoorGu
import Derived.Test.YtebddgdkndmpjaaGreatDoorSq
import Derived.Test.YtebddgdkndmpjaaGreatDoorEi
import Derived.Test.YtebddgdkndmpjaaGreatDoorDe
import Derived.Deep.CutBlock
import Derived.Deep.RegionLawGrows
import Derived.Deep.Cut
import Derived.Deep.CutRange
import Derived.WalkKit
import Derived.WalkLawsBesides
import Derived.WalkSpells
import Derived.Deep.QuietTactic
import Derived.BigRegion
import Derived.BigQuiet
import Derived.Lib.Hide
import Derived.Outline
import Derived.Deep.AppendLies
import Derived.Deep.RegionLaw
import Derived.Deep.RegionWith
import Derived.Deep.RegionHeld3
import Derived.Deep.LoopGhost
import Derived.Deep.DeepFit
import Derived.Laws.ResultCell
import Derived.Laws.RangeAny
import Derived.Deep.MidRow
import Derived.StillTailTactics
import Derived.OpenShut
import Derived.Sort.OwnSorted
namespace Go.Proofs.YtebddgdkndmpjaaGreatDoor
set_option linter.unusedVariables false
open Go.RowKit Go

theorem sel_atR {w : World} {g n c B : Nat} {ss : List (ByteArray × ByteArray × ByteArray)} (h : w.ownsRow B 176 3 (.slice (some ⟨g, 0, none⟩) n c) n (selCells ss)) {k : Nat} {s : ByteArray × ByteArray × ByteArray} (hk : ss[k]? = some s) :
    w.cell? ⟨g, k * 3, none⟩ = some (.string s.1) ∧ w.cell? ⟨g, k * 3 + 1, none⟩ = some (.string s.2.1) ∧ w.cell? ⟨g, k * 3 + 2, none⟩ = some (.string s.2.2) := by
  have := selCells_get ss k s hk
  have hl := h.1
  rw [selCells_len] at hl
  have hkl : k < ss.length := by
    rcases Nat.lt_or_ge k ss.length with h1 | h1
    · exact h1
    · rw [List.getElem?_eq_none h1] at hk; cases hk
  refine ⟨?_, ?_, ?_⟩
  · rw [World.ownsRow.cellAt h _ (by omega)]; exact this.1
  · rw [World.ownsRow.cellAt h _ (by omega)]; exact this.2.1
  · rw [World.ownsRow.cellAt h _ (by omega)]; exact this.2.2

set_option maxRecDepth 100000 in
set_option maxHeartbeats 4000000 in
/-- The vars of the selections. -/
theorem columns_anyR (kind t : ByteArray) (dis : Bool) (g n c n2 c2 n3 c3 n4 c4 : Nat) (A2 A3 A4 : Option Addr) (ss : List (ByteArray × ByteArray × ByteArray)) (w : World) (hn : n ≤ 9) (hl : ss.length = n) (B : Nat) (hb : w.ownsRow B 176 3 (.slice (some ⟨g, 0, none⟩) n c) n (selCells ss)) :
    Calls Tryz.prog 56 #[.agg #[.string kind, .string t, .bool dis, .slice (some ⟨g, 0, none⟩) n c, .slice A2 n2 c2, .slice A3 n3 c3, .slice A4 n4 c4]] w (NamesPost w n (ss.map (·.1))) := by
  obtain ⟨i9, hi9, hz90, hz91, hz92⟩ := info_parts info9
  have hf0 : Fr (fun _ => False) w (w.alloc (.cells #[.string kind, .string t, .bool dis, .slice (some ⟨g, 0, none⟩) n c, .slice A2 n2 c2, .slice A3 n3 c3, .slice A4 n4 c4] 30)) := (Fr.refl _ _).alloc _
  have HB := Lib.hid (ownsRow_fr hb hf0 (fun _ _ h => h))
  have HF0 := Lib.hid hf0
  have hgl := (hb.lt g rfl).2
  have HL := Lib.hid hl
  clear hb hf0 hl
  go_enter Tryz.func56, Tryz.ntmps56
  go_wp2_with fail
  have hsz0 := HF0.out.size
  have hszz : w.heap.size < (w.alloc (.cells #[.string kind, .string t, .bool dis, .slice (some ⟨g, 0, none⟩) n c, .slice A2 n2 c2, .slice A3 n3 c3, .slice A4 n4 c4] 30)).heap.size := by simp
  generalize w.alloc (.cells #[.string kind, .string t, .bool dis, .slice (some ⟨g, 0, none⟩) n c, .slice A2 n2 c2, .slice A3 n3 c3, .slice A4 n4 c4] 30) = w1 at *
  go_loopw [3, 9] (fun ov iv wr => ∃ (k : Nat) (A : Option Addr) (c1 : Nat), ov = .slice A k c1 ∧ iv = .int .i64 (k : Int) ∧ k ≤ n ∧ wr.ownsRow w.heap.size 9 1 (.slice A k c1) k (((ss.map (·.1)).take k).map .string) ∧ Fr (fun j => w.heap.size ≤ j ∧ j ≠ g) w1 wr) (fun _ iv _ => n - (intOf iv).toNat)
  case atStart => exact ⟨0, none, 0, rfl, rfl, Nat.zero_le _, World.ownsRow_nil _ _ _ _, Fr.refl _ _⟩
  case round =>
    obtain ⟨k, A, c1, rfl, rfl, hk, hrow, hf⟩ := hrel
    by_cases hlt : k < n
    · have hlt' : (k : Int) < (n : Int) := by omega
      obtain ⟨s, hs⟩ : ∃ s, ss[k]? = some s := ⟨ss[k]'(by have := HL.out; omega), List.getElem?_eq_getElem _⟩
      have hbr := ownsRow_fr HB.out hf (fun j hj h => h.2 (by injection hj with hj; exact hj.symm))
      obtain ⟨q0, q1, q2⟩ := sel_atR hbr hs
      obtain ⟨sv, sf, so⟩ := s
      simp only at q0 q1 q2
      have HT := Lib.hid (show (ss.map (·.1)).take (k + 1) = (ss.map (·.1)).take k ++ [sv] by
        rw [List.take_add_one, List.getElem?_map, hs]; rfl)
      have hgr := (hbr.lt g rfl).2
      have HROW := Lib.hid hrow
      have HF := Lib.hid hf
      have HBR := Lib.hid hbr
      have hszr := hf.size
      have HNW := Lib.hid (show ((wr.alloc (.cells #[.string sv, .string sf, .string so] 176)).alloc (.cells #[.string sv] 9)).heap[wr.heap.size + 1]? = some (.cells #[.string sv] 9) by
        have h1 := heap_alloc_new (wr.alloc (.cells #[.string sv, .string sf, .string so] 176)) (.cells #[.string sv] 9)
        rw [show (wr.alloc (.cells #[.string sv, .string sf, .string so] 176)).heap.size = wr.heap.size + 1 by simp] at h1
        exact h1)
      clear hrow hf hbr hs
      go_wp2_with (at_builtin; refine wpList_append_own _ rfl _ _ 28 rfl w.heap.size 9 i9 _ 1 16 Tryz.underlying28 hi9 hz90 hz91 hz92 rfl (by decide) (.slice A k c1) k (((ss.map (·.1)).take k).map .string) (by rfl) ((HROW.out.alloc _).alloc _) ⟨wr.heap.size + 1, 0, none⟩ 1 1 [.string sv] (by rfl) rfl (World.news_of_block HNW.out) (by intro u hu; rw [List.mem_singleton] at hu; rw [hu]; rfl) (by unfold maxLen; omega) (by omega) (by simp; omega) ?_; intro v7 w7 hown7 hgr7 _; obtain ⟨A7, c7, hv7⟩ := row_shape hown7; subst hv7; have HOWN7 := Lib.hid hown7; have HGR7 := Lib.hid hgr7; clear hown7 hgr7)
      have HF7 := Lib.hid (show Fr (fun j => w.heap.size ≤ j ∧ j ≠ g) w1 w7 from by
        refine (((HF.out.alloc _).alloc _).trans (Fr.of_grown HGR7.out) (fun j hj e => ?_))
        exact ⟨(HROW.out.lt j e).1, fun e2 => row_row_ne HROW.out HBR.out (by decide) e (by rw [e2]; rfl)⟩)
      have HR7 := Lib.hid (show w7.ownsRow w.heap.size 9 1 (.slice A7 (k + 1) c7) (k + 1) (((ss.map (·.1)).take (k + 1)).map .string) by rw [HT.out, List.map_append]; exact HOWN7.out)
      go_roundw
      case rel => exact ⟨k + 1, A7, c7, rfl, by go_num, by omega, HR7.out, HF7.out⟩
      case measure => simp only [intOf]; omega
    · have hlt' : ¬ (k : Int) < (n : Int) := by omega
      obtain rfl : k = n := by omega
      have HT := Lib.hid (show (ss.map (·.1)).take k = ss.map (·.1) from List.take_of_length_le (by have := HL.out; simp; omega))
      have hrow2 := hrow
      rw [HT.out] at hrow2
      have HR := Lib.hid hrow2
      have HF := Lib.hid hf
      clear hrow hrow2 hf
      go_wp2_with fail
      go_ret
      exact ⟨_, _, rfl, HR.out, ((HF0.out.mono (T := fun j => w.heap.size ≤ j) (fun _ _ h => h.elim)).trans' (HF.out.mono (fun _ _ h => h.1))).shut (Nat.le_refl _)⟩

set_option maxRecDepth 100000 in
set_option maxHeartbeats 4000000 in
theorem idx168R (g n c : Nat) (ss : List (ByteArray × ByteArray × ByteArray)) (w : World) (hn : n ≤ 9) (hl : ss.length = n) (B : Nat) (hb : w.ownsRow B 176 3 (.slice (some ⟨g, 0, none⟩) n c) n (selCells ss)) :
    Calls Tryz.prog 168 #[.slice (some ⟨g, 0, none⟩) n c, .func (.func 118) #[] #[]] w (HasPost w (foldB ss)) := by
  have HB := Lib.hid hb
  have hgl := (hb.lt g rfl).2
  have HL := Lib.hid hl
  have HC := Lib.hid (fun v f o w => isfold_any v f o w)
  obtain ⟨r, hr⟩ : ∃ r, r = foldB ss := ⟨_, rfl⟩
  rw [← hr]
  have HR := Lib.hid hr
  clear hb hl hr
  go_enter Tryz.func168, Tryz.ntmps168
  go_wp2_with fail
  go_loopw [8] (fun iv wr => ∃ k : Nat, iv = .int .i64 (k : Int) ∧ k ≤ n ∧ Fr (fun _ => False) w wr ∧ foldB (ss.drop k) = foldB ss) (fun iv _ => n - (intOf iv).toNat)
  case atStart => exact ⟨0, rfl, Nat.zero_le _, Fr.refl _ _, rfl⟩
  case round =>
    obtain ⟨k, rfl, hk, hf, hd⟩ := hrel
    have HD := Lib.hid hd
    by_cases hlt : k < n
    · have hlt' : (k : Int) < (n : Int) := by omega
      have hkl : k < ss.length := by have := HL.out; omega
      obtain ⟨s, hs⟩ : ∃ s, ss[k]? = some s := ⟨ss[k]'hkl, List.getElem?_eq_getElem _⟩
      have hbr := ownsRow_fr HB.out hf (fun _ _ h => h)
      obtain ⟨q0, q1, q2⟩ := sel_atR hbr hs
      have HDR := Lib.hid (show ss.drop k = s :: ss.drop (k + 1) by
        rw [List.drop_eq_getElem_cons hkl]
        congr 1
        rw [List.getElem?_eq_getElem hkl] at hs
        exact Option.some.inj hs)
      obtain ⟨sv, sf, so⟩ := s
      simp only at q0 q1 q2
      have HF := Lib.hid hf
      cases hfe : sf.toList.isEmpty with
      | true =>
        have HCC := Lib.hid (fun w => HC.out sv sf so w)
        rw [hfe] at HCC
        have HN := Lib.hid (show foldB (ss.drop (k + 1)) = foldB ss by
          rw [← HD.out, HDR.out]
          show _ = ((!sf.toList.isEmpty) || _)
          rw [hfe]
          rfl)
        clear hf hbr hs hfe hd
        go_wp2_with fail
        refine (HCC.out _).mono ?_
        rintro e w2 ⟨rfl, hf2⟩
        have HF2 := Lib.hid (HF.out.trans' hf2)
        clear hf2
        go_wp2_with fail
        go_roundw
        case rel => exact ⟨k + 1, by go_num, by omega, HF2.out, HN.out⟩
        case measure => simp only [intOf]; omega
      | false =>
        have HCC := Lib.hid (fun w => HC.out sv sf so w)
        rw [hfe] at HCC
        have hrt : r = true := by
          rw [HR.out, ← HD.out, HDR.out]
          show ((!sf.toList.isEmpty) || _) = true
          rw [hfe]
          rfl
        subst hrt
        clear hf hbr hs hfe hd
        go_wp2_with fail
        refine (HCC.out _).mono ?_
        rintro e w2 ⟨rfl, hf2⟩
        have HF2 := Lib.hid (HF.out.trans' hf2)
        clear hf2
        go_wp2_with fail
        go_ret
        exact ⟨_, rfl, decide_eq_true (by omega), HF2.out⟩
    · have hlt' : ¬ (k : Int) < (n : Int) := by omega
      have hrf : r = false := by
        rw [HR.out, ← HD.out, List.drop_of_length_le (by have := HL.out; omega)]
        rfl
      subst hrf
      have HF := Lib.hid hf
      clear hf hd
      go_wp2_with fail
      go_ret
      exact ⟨_, rfl, rfl, HF.out⟩
set_option maxRecDepth 100000 in
set_option maxHeartbeats 4000000 in
theorem has117R (g n c : Nat) (ss : List (ByteArray × ByteArray × ByteArray)) (w : World) (hn : n ≤ 9) (hl : ss.length = n) (B : Nat) (hb : w.ownsRow B 176 3 (.slice (some ⟨g, 0, none⟩) n c) n (selCells ss)) :
    Calls Tryz.prog 117 #[.slice (some ⟨g, 0, none⟩) n c, .func (.func 118) #[] #[]] w (IsB (foldB ss) w) := by
  have HI := Lib.hid (idx168R g n c ss w hn hl B hb)
  generalize foldB ss = r at *
  clear hb
  go_enter Tryz.func117, Tryz.ntmps117
  go_wp2_with fail
  refine HI.out.mono ?_
  rintro e w1 ⟨k, rfl, hk, hf⟩
  go_wp2_with fail
  go_ret
  exact ⟨by rw [← hk]; rfl, hf⟩
set_option maxRecDepth 100000 in
set_option maxHeartbeats 4000000 in
/-- Is there a BY, or a fold? -/
theorem grouped_anyR (kind t : ByteArray) (dis : Bool) (g n c n2 c2 n3 c3 n4 c4 : Nat) (A2 A3 A4 : Option Addr) (ss : List (ByteArray × ByteArray × ByteArray)) (w : World) (hn : n ≤ 9) (hl : ss.length = n) (B : Nat) (hb : w.ownsRow B 176 3 (.slice (some ⟨g, 0, none⟩) n c) n (selCells ss)) :
    Calls Tryz.prog 57 #[.agg #[.string kind, .string t, .bool dis, .slice (some ⟨g, 0, none⟩) n c, .slice A2 n2 c2, .slice A3 n3 c3, .slice A4 n4 c4]] w (IsB (decide (0 < n4) || foldB ss) w) := by
  have hf0 : Fr (fun _ => False) w (w.alloc (.cells #[.string kind, .string t, .bool dis, .slice (some ⟨g, 0, none⟩) n c, .slice A2 n2 c2, .slice A3 n3 c3, .slice A4 n4 c4] 30)) := (Fr.refl _ _).alloc _
  have HH := Lib.hid (has117R g n c ss _ hn hl B (ownsRow_fr hb hf0 (fun _ _ h => h)))
  have HF := Lib.hid hf0
  generalize foldB ss = r at *
  clear hb hf0 hl
  by_cases h4 : 0 < n4
  · rw [decide_eq_true h4]
    have h4' : ((n4 : Int) > 0) := by omega
    go_enter Tryz.func57, Tryz.ntmps57
    go_wp2_with fail
    go_ret
    exact ⟨rfl, HF.out⟩
  · obtain rfl : n4 = 0 := by omega
    go_enter Tryz.func57, Tryz.ntmps57
    go_wp2_with fail
    refine HH.out.mono ?_
    rintro e w1 ⟨rfl, hf1⟩
    go_wp2_with fail
    go_ret
    exact ⟨by simp, HF.out.trans' hf1⟩

/-- Strings in order. -/
def sortB (ss : List ByteArray) : List ByteArray := ((ss.map fun s => s.data.toList).mergeSort fun x y => decide (x ≤ y)).map fun l => ⟨l.toArray⟩
theorem sortB_len (ss : List ByteArray) : (sortB ss).length = ss.length := by unfold sortB; simp
theorem enc_back (ss : List ByteArray) : (ss.map fun s => s.data.toList).map Go.Proofs.encStr = ss.map Value.string := by
  rw [List.map_map]
  apply List.map_congr_left
  intro s _
  show Value.string ⟨s.data.toList.toArray⟩ = Value.string s
  congr 1
theorem enc_out (ls : List (List UInt8)) : ls.map Go.Proofs.encStr = (ls.map fun l => (⟨l.toArray⟩ : ByteArray)).map Value.string := by
  rw [List.map_map]
  rfl

theorem sortS_any (g n c B : Nat) (ss : List ByteArray) (w : World) (hn : n ≤ 4096) (hr : w.ownsRow B 9 1 (.slice (some ⟨g, 0, none⟩) n c) n (ss.map .string)) :
    Calls Tryz.prog 79 #[.slice (some ⟨g, 0, none⟩) n c] w fun e w' => e = .returned (.tuple #[]) ∧ w'.ownsRow B 9 1 (.slice (some ⟨g, 0, none⟩) n c) n ((sortB ss).map .string) ∧ Fr (fun j => j = g) w w' := by
  have hl : ss.length = n := by have := hr.1; simpa using this
  subst hl
  obtain ⟨ls, hls⟩ : ∃ ls, ls = ss.map fun s => s.data.toList := ⟨_, rfl⟩
  have hll : ls.length = ss.length := by rw [hls]; simp
  have he : ss.map Value.string = ls.map Go.Proofs.encStr := by rw [hls, enc_back]
  have ho : (sortB ss).map Value.string = (ls.mergeSort fun x y => decide (x ≤ y)).map Go.Proofs.encStr := by
    rw [enc_out, hls]
    rfl
  rw [ho]
  rw [he] at hr
  rw [← hll] at hr hn ⊢
  rcases hr.2 with ⟨h1, _⟩ | ⟨g', cap, cur, h1, hbase, hb, h2, h3, h4, h5⟩
  · cases h1
  · injection h1 with h1 _ h1c
    injection h1 with h1
    injection h1 with h1
    subst h1 h1c
    refine (Tryz.slices_Sort_string g 0 c ls w (holds_of_block hb (by simpa using h5)) (Array.getElem?_eq_some_iff.1 hb).1 (by omega)).mono ?_
    rintro e w' ⟨rfl, nn, os, rfl⟩
    exact ⟨rfl, ownsRow_sorted (by simp) hbase hb h2 h3 h4, (Fr.of_grown (grownBy_sorted _)).mono (fun k _ h => by injection h with h; exact h.symm)⟩

set_option maxRecDepth 100000 in
set_option maxHeartbeats 4000000 in
/-- Some names in order; none comes twice. -/
theorem varsS_any (g n c : Nat) (ss : List ByteArray) (w : World) (hn0 : 0 < n) (hn : n ≤ 9) (hc : ∀ j, j < n → w.cell? ⟨g, j, none⟩ = some (.string (ss.getD j ByteArray.empty))) (hl : ss.length = n)
    (hr2 : ∀ j, j + 1 < n → (((sortB ss).getD (j + 1) ByteArray.empty).toList == ((sortB ss).getD j ByteArray.empty).toList) = false) :
    Calls Tryz.prog 69 #[.slice (some ⟨g, 0, none⟩) n c] w fun e w' => ∃ A c', e = .returned (.slice (some ⟨A, 0, none⟩) n c') ∧ w'.ownsRow w.heap.size 9 1 (.slice (some ⟨A, 0, none⟩) n c') n ((sortB ss).map .string) ∧ Fr (fun _ => False) w w' := by
  have HCL := Lib.hid (clone_any g n c ss w (by omega) hn0 hc hl)
  have HS := Lib.hid (fun g c B w hr => sortS_any g n c B ss w (by omega) hr)
  have HP := Lib.hid (fun g c w hc => compact_any g n c (sortB ss) w hn hc hr2)
  clear hc hr2
  generalize sortB ss = ts at *
  go_enter Tryz.func69, Tryz.ntmps69
  go_wp2_with fail
  refine HCL.out.mono ?_
  rintro e w1 ⟨A, c1, rfl, hrow1, hf1⟩
  have HF1 := Lib.hid hf1
  have HR1 := Lib.hid hrow1
  have hsz1 := hf1.size
  clear hf1 hrow1
  go_wp2_with fail
  refine (HS.out A c1 _ _ HR1.out).mono ?_
  rintro e w2 ⟨rfl, hr2, hf2⟩
  have hA : w.heap.size ≤ A := (HR1.out.lt A rfl).1
  have HF2 := Lib.hid ((HF1.out.mono (T := fun j => j = A) (fun _ _ h => h.elim)).trans' hf2)
  have HR2 := Lib.hid hr2
  clear hf2 hr2
  go_wp2_with fail
  refine (HP.out A c1 _ (str_cell HR2.out)).mono ?_
  rintro e w3 ⟨rfl, hf3⟩
  have HF3 := Lib.hid (HF2.out.trans hf3 (fun _ _ h => h.elim))
  have HR3 := Lib.hid (ownsRow_fr HR2.out hf3 (fun _ _ h => h))
  clear hf3
  go_wp2_with fail
  go_ret
  exact ⟨A, c1, rfl, HR3.out, HF3.out.mono (fun j hj h => by omega)⟩

theorem resultsE2' {P : Program} {fn : Func} {p c : Tmp} {ty : TypeId} (h : fn.results = #[.cell p ty, .tmp c]) (tmps : Array Value) (w : World) :
    (results fn tmps).run P w = ((asAddr (tmps.getD p undef)).run P w).andThen fun q w₁ => ((loadVar ty q).run P w₁).andThen fun v w₂ => .ok (.tuple #[v, tmps.getD c undef]) w₂ := by
  simp only [results, h]
  simp [Sem.run_bind, Result.andThen]
theorem resultsE2 {P : Program} {fn : Func} {p c : Tmp} {ty : TypeId} (h : fn.results = #[.cell p ty, .tmp c]) (tmps : Array Value) (w : World) (g : Nat) (t : TypeId) (cs : Array Value) (fr : Nat × Nat) (ds : TypeDesc)
    (hp : tmps.getD p undef = .pointer (some ⟨g, 0, none⟩)) (hg : w.heap[g]? = some (.cells cs t fr))
    (hu : P.underlying ty = some ds) (hd : (match ds with | .struct _ | .array _ _ => true | _ => false) = true) (hi : (P.info? ty).map (·.size) = some cs.size) (vc : Value) (hc : tmps.getD c undef = vc) :
    (results fn tmps).run P w = .ok (.tuple #[.agg cs, vc]) w := by
  rw [resultsE2' h, hp, hc]
  simp [asAddr, run_loadVar_row w g t ty cs fr ds hg hu hd hi]

def PlainPost (w : World) (n : Nat) (ss : List ByteArray) (rows : List (List Int)) (e : Ending) (w' : World) : Prop :=
  ∃ tv, e = .returned (.tuple #[tv, .int .i64 0]) ∧ TabAt w' w.heap.size n tv ss rows ∧ Fr (fun _ => False) w w'

set_option maxRecDepth 100000 in
set_option maxHeartbeats 40000000 in
/-- The rows of a query without folds, and without BY. -/
theorem total_plain (kind t : ByteArray) (dis : Bool) (SA N2 A3 N4 V R : Option Addr) (n sc c2 n3 c3 c4 m vc rc Bs Bt Br : Nat) (svs : List (ByteArray × ByteArray × ByteArray)) (pf : Nat → Nat × Bool) (vals : List Value) (rows : List (List Int)) (ns : List ByteArray) (dv : Value) (w : World)
    (hn1 : 1 ≤ n) (hn9 : n ≤ 9) (hsl : svs.length = n) (hfo : foldB svs = false) (hm : m ≤ 4096) (hns : ns.length = m) (hsz : 4 ≤ w.heap.size)
    (hr2 : ∀ j, j + 1 < n → (((sortB (svs.map (·.1))).getD (j + 1) ByteArray.empty).toList == ((sortB (svs.map (·.1))).getD j ByteArray.empty).toList) = false)
    (hpf : ∀ k, k < n → IsVar ns ((sortB (svs.map (·.1))).getD k ByteArray.empty) (pf k).1 (pf k).2) (hpl : ∀ k, k < n → (pf k).2 = true → (pf k).1 < m) (hok : RowsOk m rows) (ht : Tb w)
    (hb : w.ownsRow Bs 176 3 (.slice SA n sc) n (selCells svs)) (hv : w.ownsRow Bt 9 1 (.slice V m vc) m (ns.map .string)) (hr : RowsAt w Br (.slice R rows.length rc) vals rows) :
    Calls Tryz.prog 17 #[.agg #[.string kind, .string t, .bool dis, .slice SA n sc, .slice N2 0 c2, .slice A3 n3 c3, .slice N4 0 c4], .agg #[.slice V m vc, .slice R rows.length rc], dv] w
      (PlainPost w n (sortB (svs.map (·.1))) (if dis = true then keepL (rows.map (projRow pf n)) (keepD (rows.map (projRow pf n))) (rows.map (projRow pf n)).length else rows.map (projRow pf n))) := by
  obtain ⟨g, rfl, _, _, _⟩ := row_form hb hn1
  have hf0 : Fr (fun _ => False) w (((w.alloc (.cells #[.string kind, .string t, .bool dis, .slice (some ⟨g, 0, none⟩) n sc, .slice N2 0 c2, .slice A3 n3 c3, .slice N4 0 c4] 30)).alloc (.cells #[.slice V m vc, .slice R rows.length rc] 63)).alloc (.cells #[.slice none 0 0, .slice none 0 0] 63)) := (((Fr.refl _ _).alloc _).alloc _).alloc _
  have z1 : (w.alloc (.cells #[.string kind, .string t, .bool dis, .slice (some ⟨g, 0, none⟩) n sc, .slice N2 0 c2, .slice A3 n3 c3, .slice N4 0 c4] 30)).heap.size = w.heap.size + 1 := by simp
  have z2 : ((w.alloc (.cells #[.string kind, .string t, .bool dis, .slice (some ⟨g, 0, none⟩) n sc, .slice N2 0 c2, .slice A3 n3 c3, .slice N4 0 c4] 30)).alloc (.cells #[.slice V m vc, .slice R rows.length rc] 63)).heap.size = w.heap.size + 2 := by simp
  have z3 : (((w.alloc (.cells #[.string kind, .string t, .bool dis, .slice (some ⟨g, 0, none⟩) n sc, .slice N2 0 c2, .slice A3 n3 c3, .slice N4 0 c4] 30)).alloc (.cells #[.slice V m vc, .slice R rows.length rc] 63)).alloc (.cells #[.slice none 0 0, .slice none 0 0] 63)).heap.size = w.heap.size + 3 := by simp
  have hq := ((Blk.new w 30 #[.string kind, .string t, .bool dis, .slice (some ⟨g, 0, none⟩) n sc, .slice N2 0 c2, .slice A3 n3 c3, .slice N4 0 c4]).alloc (.cells #[.slice V m vc, .slice R rows.length rc] 63)).alloc (.cells #[.slice none 0 0, .slice none 0 0] 63)
  have htt := (Blk.new (w.alloc (.cells #[.string kind, .string t, .bool dis, .slice (some ⟨g, 0, none⟩) n sc, .slice N2 0 c2, .slice A3 n3 c3, .slice N4 0 c4] 30)) 63 #[.slice V m vc, .slice R rows.length rc]).alloc (.cells #[.slice none 0 0, .slice none 0 0] 63)
  have hy := Blk.new ((w.alloc (.cells #[.string kind, .string t, .bool dis, .slice (some ⟨g, 0, none⟩) n sc, .slice N2 0 c2, .slice A3 n3 c3, .slice N4 0 c4] 30)).alloc (.cells #[.slice V m vc, .slice R rows.length rc] 63)) 63 #[.slice none 0 0, .slice none 0 0]
  rw [z1] at htt
  rw [z2] at hy
  obtain ⟨w1, hw1⟩ : ∃ w1, w1 = ((w.alloc (.cells #[.string kind, .string t, .bool dis, .slice (some ⟨g, 0, none⟩) n sc, .slice N2 0 c2, .slice A3 n3 c3, .slice N4 0 c4] 30)).alloc (.cells #[.slice V m vc, .slice R rows.length rc] 63)).alloc (.cells #[.slice none 0 0, .slice none 0 0] 63) := ⟨_, rfl⟩
  rw [← hw1] at hq htt hy hf0 z3
  have hpok : RowsOk n (rows.map (projRow pf n)) := by
    refine ⟨by rw [List.length_map]; exact hok.1, fun i hi => ?_, fun i hi k hk => ?_⟩
    · rw [List.length_map] at hi
      rw [List.getD_eq_getElem?_getD, List.getElem?_map, List.getElem?_eq_getElem hi]
      exact projRow_len _ _ _
    · rw [List.length_map] at hi
      have e : (rows.map (projRow pf n)).getD i [] = projRow pf n (rows.getD i []) := by
        rw [List.getD_eq_getElem?_getD, List.getElem?_map, List.getD_eq_getElem?_getD, List.getElem?_eq_getElem hi]
        rfl
      rw [e, projRow_get pf n _ hk]
      unfold valN
      cases h : (pf k).2 with
      | true => exact hok.2.2 i hi _ (hpl k hk h)
      | false => simp
  have HQ1 := Lib.hid hq
  have HT1 := Lib.hid htt
  have HY1 := Lib.hid hy
  have HF1 := Lib.hid hf0
  have HS1 := Lib.hid (ownsRow_fr hb hf0 (fun _ _ h => h))
  have HV1 := Lib.hid (ownsRow_fr hv hf0 (fun _ _ h => h))
  have HR1 := Lib.hid (hr.frF hf0)
  have HTB1 := Lib.hid (ht.frF hf0)
  have HZ1 := Lib.hid z3
  have HCO := Lib.hid (fun w1 hb => columns_anyR kind t dis g n sc 0 c2 n3 c3 0 c4 N2 A3 N4 svs w1 hn9 hsl Bs hb)
  have HGR := Lib.hid (fun w1 hb => grouped_anyR kind t dis g n sc 0 c2 n3 c3 0 c4 N2 A3 N4 svs w1 hn9 hsl Bs hb)
  rw [show (decide (0 < 0) || foldB svs) = false by rw [hfo]; rfl] at HGR
  have HPJ := Lib.hid (fun (N : Option Addr) (nc : Nat) w1 hvars hv har => project_any pf n m vc Br Bt n nc V N ns (sortB (svs.map (·.1))) (.slice R rows.length rc) vals rows w1 (by omega) hm (by rw [sortB_len, List.length_map, hsl]) hns hpf hpl hok.2.1 (fun i hi k hk => (hok.2.2 i hi k hk).1) hok.1 hvars hv har)
  have HVS := Lib.hid (fun (g c : Nat) w1 hc => varsS_any g n c (svs.map (·.1)) w1 hn1 hn9 hc (by rw [List.length_map, hsl]) hr2)
  have HPOK := Lib.hid hpok
  have HD := Lib.hid (fun (V : Option Addr) vc B vr vals w1 hsz ht hs hr => distinct_any n vc B B V vr vals (rows.map (projRow pf n)) (sortB (svs.map (·.1))) w1 (by omega) (fun h => absurd h (by omega)) hpok.1 hpok.2.1 hpok.2.2 hsz ht hs hr)
  clear hf0 z1 z2 z3 hq htt hy hb hv hr hpf hpl hok hns hr2 hpok ht hfo
  generalize sortB (svs.map (·.1)) = sn at *
  generalize hpr : rows.map (projRow pf n) = prow at *
  clear hpr
  generalize svs.map (·.1) = names at *
  obtain ⟨res, hres⟩ : ∃ res, res = if dis = true then keepL prow (keepD prow) prow.length else prow := ⟨_, rfl⟩
  rw [← hres]
  have HRES := Lib.hid hres
  clear hres
  go_enter Tryz.func17, Tryz.ntmps17
  go_wp2_with fail
  rw [← hw1]
  clear hw1
  refine (HCO.out _ HS1.out).mono ?_
  rintro e w2 ⟨C, cc, rfl, hc2, hf2⟩
  have HQ2 := Lib.hid (HQ1.out.fr hf2 (fun h => h))
  have HT2 := Lib.hid (HT1.out.fr hf2 (fun h => h))
  have HY2 := Lib.hid (HY1.out.fr hf2 (fun h => h))
  have HS2 := Lib.hid (ownsRow_fr HS1.out hf2 (fun _ _ h => h))
  have HV2 := Lib.hid (ownsRow_fr HV1.out hf2 (fun _ _ h => h))
  have HR2 := Lib.hid (HR1.out.frF hf2)
  have HTB2 := Lib.hid (HTB1.out.frF hf2)
  have HF2 := Lib.hid (HF1.out.trans' hf2)
  obtain ⟨cg, rfl, _, _, _⟩ := row_form hc2 hn1
  have t0 : w2.cell? ⟨w.heap.size + 1, 0, none⟩ = some (.slice V m vc) := HT2.out.cell 0
  have t1 : w2.cell? ⟨w.heap.size + 1, 1, none⟩ = some (.slice R rows.length rc) := HT2.out.cell 1
  have HPP := Lib.hid (HPJ.out (some ⟨cg, 0, none⟩) cc w2 (fun w3 h3 => (HVS.out cg cc w3 (fun j hj => str_cell (ownsRow_fr hc2 h3 (fun _ _ h => h)) j hj)).mono (fun _ _ ⟨A, c', h1, h2, h3⟩ => ⟨_, c', h1, h2, h3⟩)) HV2.out HR2.out)
  have htl := HT2.out.lt
  clear hc2 hf2
  go_wp2_with fail
  refine HPP.out.mono ?_
  rintro e w3 ⟨tv, rfl, ⟨PV, pc, pr, pvals, rfl, hp1, hp2⟩, hf3⟩
  obtain ⟨PA, pcc, hpr⟩ := row_shape hp2.own
  subst hpr
  have HQ3 := Lib.hid (HQ2.out.fr hf3 (fun h => h))
  have HY3 := Lib.hid (HY2.out.fr hf3 (fun h => h))
  have HS3 := Lib.hid (ownsRow_fr HS2.out hf3 (fun _ _ h => h))
  have HTB3 := Lib.hid (HTB2.out.frF hf3)
  have HF3 := Lib.hid (HF2.out.trans' hf3)
  have hsz3 := hf3.size
  have hsz2 := HF2.out.size
  have hfa : Fr (fun _ => False) w3 (w3.alloc (.cells #[.slice PV n pc, .slice PA prow.length pcc] 63)) := (Fr.refl _ _).alloc _
  obtain ⟨w4, hw4⟩ : ∃ w4, w4 = w3.alloc (.cells #[.slice PV n pc, .slice PA prow.length pcc] 63) := ⟨_, rfl⟩
  obtain ⟨pb, hpb⟩ : ∃ pb, pb = w3.heap.size := ⟨_, rfl⟩
  have hp := Blk.new w3 63 #[.slice PV n pc, .slice PA prow.length pcc]
  rw [← hw4] at hfa hp
  rw [← hpb] at hp
  have HP4 := Lib.hid hp
  have hpw : w.heap.size + 2 < pb := by have := HY3.out.lt; omega
  have HQ4 := Lib.hid (HQ3.out.fr hfa (fun h => h))
  have HY4 := Lib.hid (HY3.out.fr hfa (fun h => h))
  have HS4 := Lib.hid (ownsRow_fr HS3.out hfa (fun _ _ h => h))
  have HTB4 := Lib.hid (HTB3.out.frF hfa)
  have HF4 := Lib.hid (HF3.out.trans' hfa)
  have HP1 := Lib.hid (ownsRow_base (ownsRow_fr hp1 hfa (fun _ _ h => h)) (show w.heap.size ≤ w2.heap.size by omega))
  have HP2 := Lib.hid ((hp2.frF hfa).base (show w.heap.size ≤ w2.heap.size by omega))
  have q0 : w3.cell? ⟨w.heap.size, 0, none⟩ = some (.string kind) := HQ3.out.cell 0
  have q1 : w3.cell? ⟨w.heap.size, 1, none⟩ = some (.string t) := HQ3.out.cell 1
  have q2 : w3.cell? ⟨w.heap.size, 2, none⟩ = some (.bool dis) := HQ3.out.cell 2
  have q3 : w3.cell? ⟨w.heap.size, 3, none⟩ = some (.slice (some ⟨g, 0, none⟩) n sc) := HQ3.out.cell 3
  have q4 : w3.cell? ⟨w.heap.size, 4, none⟩ = some (.slice N2 0 c2) := HQ3.out.cell 4
  have q5 : w3.cell? ⟨w.heap.size, 5, none⟩ = some (.slice A3 n3 c3) := HQ3.out.cell 5
  have q6 : w3.cell? ⟨w.heap.size, 6, none⟩ = some (.slice N4 0 c4) := HQ3.out.cell 6
  have hql := HQ3.out.lt
  clear hp1 hp2 hf3 hfa hp t0 t1
  go_wp2_with fail
  rw [← hw4, ← hpb]
  clear hw4 hpb q0 q1 q2 q3 q4 q5 q6 hql
  refine (HGR.out _ HS4.out).mono ?_
  rintro e w5 ⟨rfl, hf5⟩
  have HQ5 := Lib.hid (HQ4.out.fr hf5 (fun h => h))
  have HY5 := Lib.hid (HY4.out.fr hf5 (fun h => h))
  have HTB5 := Lib.hid (HTB4.out.frF hf5)
  have HF5 := Lib.hid (HF4.out.trans' hf5)
  have HP5 := Lib.hid (HP4.out.fr hf5 (fun h => h))
  have HPV5 := Lib.hid (ownsRow_fr HP1.out hf5 (fun _ _ h => h))
  have HPR5 := Lib.hid (HP2.out.frF hf5)
  have q2 : w5.cell? ⟨w.heap.size, 2, none⟩ = some (.bool dis) := HQ5.out.cell 2
  have p0 : w5.cell? ⟨pb, 0, none⟩ = some (.slice PV n pc) := HP5.out.cell 0
  have p1 : w5.cell? ⟨pb, 1, none⟩ = some (.slice PA prow.length pcc) := HP5.out.cell 1
  have hq5l := HQ5.out.lt
  have hp5l := HP5.out.lt
  have hy5l := HY5.out.lt
  clear hf5
  cases dis with
  | false =>
    have hres : res = prow := by rw [HRES.out]; rfl
    clear HRES
    subst hres
    have hst := Blk.setAll (vs := [.slice PV n pc, .slice PA res.length pcc]) (old := [.slice none 0 0, .slice none 0 0]) HY5.out rfl
    have HTH := Lib.hid (Blk.there (cs := [.slice none 0 0, .slice none 0 0]) HY5.out (n := 2) rfl)
    have HST := Lib.hid hst.1
    have HONE := Lib.hid (show (#[.slice PV n pc, .slice PA res.length pcc] : Array Value).all (·.oneCell') = true from all_oneCell_toArray (by intro v hv; simp only [List.mem_cons, List.not_mem_nil, or_false] at hv; rcases hv with rfl | rfl <;> rfl))
    have HRG := Lib.hid (blkRange (cs := [.slice PV n pc, .slice PA res.length pcc]) HP5.out)
    have HO1F := Lib.hid (ownsRow_fr HPV5.out hst.2 (fun j hj e => own_blk_ne HPV5.out HY5.out (by decide) (by rw [← e]; exact hj)))
    have HO2F := Lib.hid (HPR5.out.frB HY5.out (by decide) (by decide) hst.2)
    have HFF := Lib.hid (HF5.out.trans (T := fun j => j = w.heap.size + 2) hst.2 (fun j hj e => absurd hj (by omega)))
    clear hst
    go_wp2_with (first | refine wpList_load_mid rfl 63 _ rfl pb 0 rfl _ _ HRG.out Tryz.underlying63 rfl inf63 ?_ | refine wpList_store_mid rfl 63 _ _ rfl _ _ _ rfl rfl HTH.out inf63 HONE.out ?_)
    exact bodyPost_ret (v := .tuple #[.agg #[.slice PV n pc, .slice PA res.length pcc], .int .i64 0]) (resultsE2 rfl _ _ (w.heap.size + 2) 63 _ (0, 0) _ rfl HST.out Tryz.underlying63 rfl (by kernel_rfl) _ rfl) rfl ⟨_, rfl, ⟨PV, pc, _, _, rfl, (fun h => absurd h (by omega)), HO1F.out, HO2F.out⟩, HFF.out⟩
  | true =>
    have hres : res = keepL prow (keepD prow) prow.length := by rw [HRES.out]; rfl
    clear HRES
    have HRG := Lib.hid (blkRange (cs := [.slice PV n pc, .slice PA prow.length pcc]) HP5.out)
    have HDD := Lib.hid (HD.out PV pc w.heap.size (.slice PA prow.length pcc) pvals w5 (by have := HF5.out.size; omega) HTB5.out HPV5.out HPR5.out)
    rw [← hres] at HDD
    clear hres
    go_wp2_with (first | refine wpList_load_mid rfl 63 _ rfl pb 0 rfl _ _ HRG.out Tryz.underlying63 rfl inf63 ?_)
    refine HDD.out.mono ?_
    rintro e w6 ⟨OV, oc, vr6, vals6, rfl, _, ho1, ho2, hf6⟩
    obtain ⟨OA, occ, hv6⟩ := row_shape ho2.own
    subst hv6
    have hy6 := HY5.out.fr hf6 (fun h => h)
    have hst := Blk.setAll (vs := [.slice OV n oc, .slice OA res.length occ]) (old := [.slice none 0 0, .slice none 0 0]) hy6 rfl
    have HTH := Lib.hid (Blk.there (cs := [.slice none 0 0, .slice none 0 0]) hy6 (n := 2) rfl)
    have HST := Lib.hid hst.1
    have HONE := Lib.hid (show (#[.slice OV n oc, .slice OA res.length occ] : Array Value).all (·.oneCell') = true from all_oneCell_toArray (by intro v hv; simp only [List.mem_cons, List.not_mem_nil, or_false] at hv; rcases hv with rfl | rfl <;> rfl))
    have hsz5 := HF5.out.size
    have HO1F := Lib.hid (ownsRow_base (ownsRow_fr ho1 hst.2 (fun j hj e => own_blk_ne ho1 hy6 (by decide) (by rw [← e]; exact hj))) hsz5)
    have HO2F := Lib.hid ((ho2.frB hy6 (by decide) (by decide) hst.2).base hsz5)
    have HFF := Lib.hid ((HF5.out.trans' hf6).trans (T := fun j => j = w.heap.size + 2) hst.2 (fun j hj e => absurd hj (by omega)))
    have hl6 := hy6.lt
    generalize res.length = dn at *
    clear hst ho1 ho2 hf6 hy6
    go_wp2_with (first | refine wpList_store_mid rfl 63 _ _ rfl _ _ _ rfl rfl HTH.out inf63 HONE.out ?_)
    exact bodyPost_ret (v := .tuple #[.agg #[.slice OV n oc, .slice OA dn occ], .int .i64 0]) (resultsE2 rfl _ _ (w.heap.size + 2) 63 _ (0, 0) _ rfl HST.out Tryz.underlying63 rfl (by kernel_rfl) _ rfl) rfl ⟨_, rfl, ⟨OV, oc, _, _, rfl, (fun h => absurd h (by omega)), HO1F.out, HO2F.out⟩, HFF.out⟩

end Go.Proofs.YtebddgdkndmpjaaGreatDoor
