/- Folds and groups: the columns, the groups, the rows: walked. -/
import Derived.Test.YtebddgdkndmpjaaGreatDoorHg
import Derived.Test.YtebddgdkndmpjaaGreatDoorHo
import Derived.Test.YtebddgdkndmpjaaGreatDoorHf
import Derived.Test.YtebddgdkndmpjaaGreatDoorBw
import Derived.Deep.CutBlock
import Derived.Deep.RegionLawGrows
import Derived.Deep.Cut
import Derived.Deep.CutRange
import Derived.WalkKit
import Derived.WalkLawsBesides
import Derived.WalkSpells
import Derived.Deep.QuietTactic
import Derived.BigRegion
import Derived.BigQuiet
import Derived.Lib.Hide
import Derived.Outline
import Derived.Deep.AppendLies
import Derived.Deep.RegionLaw
import Derived.Deep.RegionWith
import Derived.Deep.RegionHeld3
import Derived.Deep.LoopGhost
import Derived.Deep.DeepFit
import Derived.Laws.ResultCell
import Derived.Laws.RangeAny
import Derived.Deep.MidRow
import Derived.StillTailTactics
import Derived.OpenShut
namespace Go.Proofs.YtebddgdkndmpjaaGreatDoor
set_option linter.unusedVariables false
open Go.RowKit Go

set_option maxRecDepth 100000 in
set_option maxHeartbeats 4000000 in
/-- The fold of a table's rows: how many there are. -/
theorem fold_star (f : ByteArray) (dv : Value) (V R : Option Addr) (m vc n rc : Nat) (w : World) (hn : n < 100) :
    Calls Tryz.prog 52 #[.string f, .string ⟨#[42]⟩, .agg #[.slice V m vc, .slice R n rc], dv] w fun e w' => e = .returned (.tuple #[(smallTm n).val, .bool true]) ∧ Fr (fun _ => False) w w' := by
  have HI := Lib.hid (fun w => int_small n hn w)
  unfold smallTm Tm.val
  generalize (⟨(Lib.decDigits n).toArray⟩ : ByteArray) = s at *
  generalize xInt = xi at *
  go_enter Tryz.func52, Tryz.ntmps52
  go_wp2_with fail
  refine (HI.out _).mono ?_
  rintro e w1 ⟨rfl, hf1⟩
  have HF := Lib.hid (((Fr.refl (fun _ => False) w).alloc (.cells #[.slice V m vc, .slice R n rc] 63)).trans' hf1)
  clear hf1
  go_wp2_with fail
  go_ret2
  exact ⟨rfl, HF.out⟩

set_option maxRecDepth 100000 in
set_option maxHeartbeats 4000000 in
theorem plainS_any (s : ByteArray) (w : World) : Calls Tryz.prog 25 #[.string s] w fun e w' => e = .returned (.agg #[.string s, .string ⟨#[104, 116, 116, 112, 58, 47, 47, 119, 119, 119, 46, 119, 51, 46, 111, 114, 103, 47, 50, 48, 48, 49, 47, 88, 77, 76, 83, 99, 104, 101, 109, 97, 35, 115, 116, 114, 105, 110, 103]⟩, .string ⟨#[]⟩]) ∧ Fr (fun _ => False) w w' := by
  go_enter Tryz.func25, Tryz.ntmps25
  go_wp2_with fail
  exact bodyPost_ret (results_cell_row rfl _ _ w.heap.size 78 _ (0, 0) _ rfl (Blk.new w 78 _) Tryz.underlying78 rfl (by kernel_rfl)) rfl ⟨rfl, (Fr.refl _ _).alloc _⟩

set_option maxRecDepth 100000 in
set_option maxHeartbeats 4000000 in
/-- The fixed fact. -/
theorem awake15_any (w : World) : Calls Tryz.prog 15 #[] w (IsB true w) := by
  have HD := Lib.hid (dnew_any 5 w (by decide) (by decide))
  have HI := Lib.hid (fun w => int_small 0 (by decide) w)
  have HS := Lib.hid (fun w => same_any (smallTm 0) (smallTm 0) w)
  have HFS := Lib.hid (fun dv w => fold_star ⟨#[67, 79, 85, 78, 84]⟩ dv none none 0 0 0 0 w (by decide))
  rw [sameB_iff.2 rfl] at HS
  unfold smallTm Tm.val at HS HFS
  generalize (⟨(Lib.decDigits 0).toArray⟩ : ByteArray) = s at *
  generalize xInt = xi at *
  go_enter Tryz.func15, Tryz.ntmps15
  go_wp2_with fail
  refine HD.out.mono ?_
  rintro e w1 ⟨rfl, _, hf1⟩
  have HF1 := Lib.hid hf1
  clear hf1
  go_wp2_with fail
  refine (HFS.out _ _).mono ?_
  rintro e w2 ⟨rfl, hf2⟩
  have HF2 := Lib.hid (HF1.out.trans' hf2)
  clear hf2
  go_wp2_with fail
  refine (HI.out _).mono ?_
  rintro e w3 ⟨rfl, hf3⟩
  have HF3 := Lib.hid (HF2.out.trans' hf3)
  clear hf3
  go_wp2_with fail
  refine (HS.out _).mono ?_
  rintro e w4 ⟨rfl, rfl⟩
  go_wp2_with fail
  go_ret
  exact ⟨rfl, HF3.out⟩

/-- The cells of selections. -/
def selCells (ss : List (ByteArray × ByteArray × ByteArray)) : List Value := ss.flatMap fun s => [.string s.1, .string s.2.1, .string s.2.2]
theorem selCells_len (ss : List (ByteArray × ByteArray × ByteArray)) : (selCells ss).length = ss.length * 3 := by
  induction ss with
  | nil => rfl
  | cons s l ih =>
    show ([_, _, _] ++ selCells l : List Value).length = _
    rw [List.length_append, ih]
    simp
    omega
theorem selCells_get : ∀ (ss : List (ByteArray × ByteArray × ByteArray)) (k : Nat) (s : ByteArray × ByteArray × ByteArray), ss[k]? = some s → (selCells ss)[k * 3]? = some (.string s.1) ∧ (selCells ss)[k * 3 + 1]? = some (.string s.2.1) ∧ (selCells ss)[k * 3 + 2]? = some (.string s.2.2)
  | [], k, s, h => by simp at h
  | x :: l, 0, s, h => by
    simp at h
    subst h
    exact ⟨rfl, rfl, rfl⟩
  | x :: l, k + 1, s, h => by
    have := selCells_get l k s (by simpa using h)
    show (([_, _, _] ++ selCells l : List Value)[(k + 1) * 3]? = _) ∧ (([_, _, _] ++ selCells l : List Value)[(k + 1) * 3 + 1]? = _) ∧ (([_, _, _] ++ selCells l : List Value)[(k + 1) * 3 + 2]? = _)
    rw [List.getElem?_append_right (by simp; omega), List.getElem?_append_right (by simp; omega), List.getElem?_append_right (by simp; omega)]
    simp only [List.length_cons, List.length_nil]
    rw [show (k + 1) * 3 - (0 + 1 + 1 + 1) = k * 3 by omega, show (k + 1) * 3 + 1 - (0 + 1 + 1 + 1) = k * 3 + 1 by omega, show (k + 1) * 3 + 2 - (0 + 1 + 1 + 1) = k * 3 + 2 by omega]
    exact this
theorem sel_at {w : World} {g : Nat} {ss : List (ByteArray × ByteArray × ByteArray)} (h : Blk w g 176 (selCells ss).toArray) {k : Nat} {s : ByteArray × ByteArray × ByteArray} (hk : ss[k]? = some s) :
    w.cell? ⟨g, k * 3, none⟩ = some (.string s.1) ∧ w.cell? ⟨g, k * 3 + 1, none⟩ = some (.string s.2.1) ∧ w.cell? ⟨g, k * 3 + 2, none⟩ = some (.string s.2.2) := by
  have := selCells_get ss k s hk
  refine ⟨?_, ?_, ?_⟩
  · rw [h.cell, List.getElem?_toArray]; exact this.1
  · rw [h.cell, List.getElem?_toArray]; exact this.2.1
  · rw [h.cell, List.getElem?_toArray]; exact this.2.2

def NamesPost (w : World) (n : Nat) (ss : List ByteArray) (e : Ending) (w' : World) : Prop :=
  ∃ V c, e = .returned (.slice V n c) ∧ w'.ownsRow w.heap.size 9 1 (.slice V n c) n (ss.map .string) ∧ Fr (fun _ => False) w w'

set_option maxRecDepth 100000 in
set_option maxHeartbeats 4000000 in
/-- The vars of the selections. -/
theorem columns_any (kind t : ByteArray) (dis : Bool) (g n c n2 c2 n3 c3 n4 c4 : Nat) (A2 A3 A4 : Option Addr) (ss : List (ByteArray × ByteArray × ByteArray)) (w : World) (hn : n ≤ 9) (hl : ss.length = n) (hb : Blk w g 176 (selCells ss).toArray) :
    Calls Tryz.prog 56 #[.agg #[.string kind, .string t, .bool dis, .slice (some ⟨g, 0, none⟩) n c, .slice A2 n2 c2, .slice A3 n3 c3, .slice A4 n4 c4]] w (NamesPost w n (ss.map (·.1))) := by
  obtain ⟨i9, hi9, hz90, hz91, hz92⟩ := info_parts info9
  have hf0 : Fr (fun _ => False) w (w.alloc (.cells #[.string kind, .string t, .bool dis, .slice (some ⟨g, 0, none⟩) n c, .slice A2 n2 c2, .slice A3 n3 c3, .slice A4 n4 c4] 30)) := (Fr.refl _ _).alloc _
  have HB := Lib.hid (hb.fr hf0 (fun h => h))
  have HF0 := Lib.hid hf0
  have hgl := hb.lt
  have HL := Lib.hid hl
  clear hb hf0 hl
  go_enter Tryz.func56, Tryz.ntmps56
  go_wp2_with fail
  have hsz0 := HF0.out.size
  have hszz : w.heap.size < (w.alloc (.cells #[.string kind, .string t, .bool dis, .slice (some ⟨g, 0, none⟩) n c, .slice A2 n2 c2, .slice A3 n3 c3, .slice A4 n4 c4] 30)).heap.size := by simp
  generalize w.alloc (.cells #[.string kind, .string t, .bool dis, .slice (some ⟨g, 0, none⟩) n c, .slice A2 n2 c2, .slice A3 n3 c3, .slice A4 n4 c4] 30) = w1 at *
  go_loopw [3, 9] (fun ov iv wr => ∃ (k : Nat) (A : Option Addr) (c1 : Nat), ov = .slice A k c1 ∧ iv = .int .i64 (k : Int) ∧ k ≤ n ∧ wr.ownsRow w.heap.size 9 1 (.slice A k c1) k (((ss.map (·.1)).take k).map .string) ∧ Fr (fun j => w.heap.size ≤ j ∧ j ≠ g) w1 wr) (fun _ iv _ => n - (intOf iv).toNat)
  case atStart => exact ⟨0, none, 0, rfl, rfl, Nat.zero_le _, World.ownsRow_nil _ _ _ _, Fr.refl _ _⟩
  case round =>
    obtain ⟨k, A, c1, rfl, rfl, hk, hrow, hf⟩ := hrel
    by_cases hlt : k < n
    · have hlt' : (k : Int) < (n : Int) := by omega
      obtain ⟨s, hs⟩ : ∃ s, ss[k]? = some s := ⟨ss[k]'(by have := HL.out; omega), List.getElem?_eq_getElem _⟩
      have hbr := HB.out.fr hf (fun h => h.2 rfl)
      obtain ⟨q0, q1, q2⟩ := sel_at hbr hs
      obtain ⟨sv, sf, so⟩ := s
      simp only at q0 q1 q2
      have HT := Lib.hid (show (ss.map (·.1)).take (k + 1) = (ss.map (·.1)).take k ++ [sv] by
        rw [List.take_add_one, List.getElem?_map, hs]; rfl)
      have hgr := hbr.lt
      have HROW := Lib.hid hrow
      have HF := Lib.hid hf
      have HBR := Lib.hid hbr
      have hszr := hf.size
      have HNW := Lib.hid (show ((wr.alloc (.cells #[.string sv, .string sf, .string so] 176)).alloc (.cells #[.string sv] 9)).heap[wr.heap.size + 1]? = some (.cells #[.string sv] 9) by
        have h1 := heap_alloc_new (wr.alloc (.cells #[.string sv, .string sf, .string so] 176)) (.cells #[.string sv] 9)
        rw [show (wr.alloc (.cells #[.string sv, .string sf, .string so] 176)).heap.size = wr.heap.size + 1 by simp] at h1
        exact h1)
      clear hrow hf hbr hs
      go_wp2_with (at_builtin; refine wpList_append_own _ rfl _ _ 28 rfl w.heap.size 9 i9 _ 1 16 Tryz.underlying28 hi9 hz90 hz91 hz92 rfl (by decide) (.slice A k c1) k (((ss.map (·.1)).take k).map .string) (by rfl) ((HROW.out.alloc _).alloc _) ⟨wr.heap.size + 1, 0, none⟩ 1 1 [.string sv] (by rfl) rfl (World.news_of_block HNW.out) (by intro u hu; rw [List.mem_singleton] at hu; rw [hu]; rfl) (by unfold maxLen; omega) (by omega) (by simp; omega) ?_; intro v7 w7 hown7 hgr7 _; obtain ⟨A7, c7, hv7⟩ := row_shape hown7; subst hv7; have HOWN7 := Lib.hid hown7; have HGR7 := Lib.hid hgr7; clear hown7 hgr7)
      have HF7 := Lib.hid (show Fr (fun j => w.heap.size ≤ j ∧ j ≠ g) w1 w7 from by
        refine (((HF.out.alloc _).alloc _).trans (Fr.of_grown HGR7.out) (fun j hj e => ?_))
        exact ⟨(HROW.out.lt j e).1, fun e2 => own_blk_ne HROW.out HBR.out (by decide) (by rw [← e2]; exact e)⟩)
      have HR7 := Lib.hid (show w7.ownsRow w.heap.size 9 1 (.slice A7 (k + 1) c7) (k + 1) (((ss.map (·.1)).take (k + 1)).map .string) by rw [HT.out, List.map_append]; exact HOWN7.out)
      go_roundw
      case rel => exact ⟨k + 1, A7, c7, rfl, by go_num, by omega, HR7.out, HF7.out⟩
      case measure => simp only [intOf]; omega
    · have hlt' : ¬ (k : Int) < (n : Int) := by omega
      obtain rfl : k = n := by omega
      have HT := Lib.hid (show (ss.map (·.1)).take k = ss.map (·.1) from List.take_of_length_le (by have := HL.out; simp; omega))
      have hrow2 := hrow
      rw [HT.out] at hrow2
      have HR := Lib.hid hrow2
      have HF := Lib.hid hf
      clear hrow hrow2 hf
      go_wp2_with fail
      go_ret
      exact ⟨_, _, rfl, HR.out, ((HF0.out.mono (T := fun j => w.heap.size ≤ j) (fun _ _ h => h.elim)).trans' (HF.out.mono (fun _ _ h => h.1))).shut (Nat.le_refl _)⟩

def selV3 (s : ByteArray × ByteArray × ByteArray) : Value := .agg #[.string s.1, .string s.2.1, .string s.2.2]
theorem toList_ne {s : ByteArray} (h : s.toList.isEmpty = false) : ¬ s.toList = [] := by
  intro e
  rw [e] at h
  cases h
set_option maxRecDepth 100000 in
set_option maxHeartbeats 4000000 in
theorem isfold_any (v f o : ByteArray) (w : World) : Calls Tryz.prog 118 #[.agg #[.string v, .string f, .string o]] w fun e w' => e = .returned (.bool (!f.toList.isEmpty)) ∧ Fr (fun _ => False) w w' := by
  cases hf : f.toList.isEmpty with
  | true =>
    have hf2 : f.toList = [] := List.isEmpty_iff.1 hf
    have hf3 : (!f.toList.isEmpty) = false := by rw [hf]; rfl
    go_enter Tryz.func118, Tryz.ntmps118
    go_wp2_with fail
    go_ret
    exact ⟨rfl, (Fr.refl _ _).alloc _⟩
  | false =>
    have hf2 := toList_ne hf
    have hf3 : (!f.toList.isEmpty) = true := by rw [hf]; rfl
    go_enter Tryz.func118, Tryz.ntmps118
    go_wp2_with fail
    go_ret
    exact ⟨rfl, (Fr.refl _ _).alloc _⟩

/-- Is one of the selections a fold? -/
def foldB (ss : List (ByteArray × ByteArray × ByteArray)) : Bool := ss.any fun s => !s.2.1.toList.isEmpty
def HasPost (w : World) (r : Bool) (e : Ending) (w' : World) : Prop := ∃ k : Int, e = .returned (.int .i64 k) ∧ decide (k ≥ 0) = r ∧ Fr (fun _ => False) w w'
set_option maxRecDepth 100000 in
set_option maxHeartbeats 4000000 in
theorem idx168 (g n c : Nat) (ss : List (ByteArray × ByteArray × ByteArray)) (w : World) (hn : n ≤ 9) (hl : ss.length = n) (hb : Blk w g 176 (selCells ss).toArray) :
    Calls Tryz.prog 168 #[.slice (some ⟨g, 0, none⟩) n c, .func (.func 118) #[] #[]] w (HasPost w (foldB ss)) := by
  have HB := Lib.hid hb
  have hgl := hb.lt
  have HL := Lib.hid hl
  have HC := Lib.hid (fun v f o w => isfold_any v f o w)
  obtain ⟨r, hr⟩ : ∃ r, r = foldB ss := ⟨_, rfl⟩
  rw [← hr]
  have HR := Lib.hid hr
  clear hb hl hr
  go_enter Tryz.func168, Tryz.ntmps168
  go_wp2_with fail
  go_loopw [8] (fun iv wr => ∃ k : Nat, iv = .int .i64 (k : Int) ∧ k ≤ n ∧ Fr (fun _ => False) w wr ∧ foldB (ss.drop k) = foldB ss) (fun iv _ => n - (intOf iv).toNat)
  case atStart => exact ⟨0, rfl, Nat.zero_le _, Fr.refl _ _, rfl⟩
  case round =>
    obtain ⟨k, rfl, hk, hf, hd⟩ := hrel
    have HD := Lib.hid hd
    by_cases hlt : k < n
    · have hlt' : (k : Int) < (n : Int) := by omega
      have hkl : k < ss.length := by have := HL.out; omega
      obtain ⟨s, hs⟩ : ∃ s, ss[k]? = some s := ⟨ss[k]'hkl, List.getElem?_eq_getElem _⟩
      have hbr := HB.out.fr hf (fun h => h)
      obtain ⟨q0, q1, q2⟩ := sel_at hbr hs
      have HDR := Lib.hid (show ss.drop k = s :: ss.drop (k + 1) by
        rw [List.drop_eq_getElem_cons hkl]
        congr 1
        rw [List.getElem?_eq_getElem hkl] at hs
        exact Option.some.inj hs)
      obtain ⟨sv, sf, so⟩ := s
      simp only at q0 q1 q2
      have HF := Lib.hid hf
      cases hfe : sf.toList.isEmpty with
      | true =>
        have HCC := Lib.hid (fun w => HC.out sv sf so w)
        rw [hfe] at HCC
        have HN := Lib.hid (show foldB (ss.drop (k + 1)) = foldB ss by
          rw [← HD.out, HDR.out]
          show _ = ((!sf.toList.isEmpty) || _)
          rw [hfe]
          rfl)
        clear hf hbr hs hfe hd
        go_wp2_with fail
        refine (HCC.out _).mono ?_
        rintro e w2 ⟨rfl, hf2⟩
        have HF2 := Lib.hid (HF.out.trans' hf2)
        clear hf2
        go_wp2_with fail
        go_roundw
        case rel => exact ⟨k + 1, by go_num, by omega, HF2.out, HN.out⟩
        case measure => simp only [intOf]; omega
      | false =>
        have HCC := Lib.hid (fun w => HC.out sv sf so w)
        rw [hfe] at HCC
        have hrt : r = true := by
          rw [HR.out, ← HD.out, HDR.out]
          show ((!sf.toList.isEmpty) || _) = true
          rw [hfe]
          rfl
        subst hrt
        clear hf hbr hs hfe hd
        go_wp2_with fail
        refine (HCC.out _).mono ?_
        rintro e w2 ⟨rfl, hf2⟩
        have HF2 := Lib.hid (HF.out.trans' hf2)
        clear hf2
        go_wp2_with fail
        go_ret
        exact ⟨_, rfl, decide_eq_true (by omega), HF2.out⟩
    · have hlt' : ¬ (k : Int) < (n : Int) := by omega
      have hrf : r = false := by
        rw [HR.out, ← HD.out, List.drop_of_length_le (by have := HL.out; omega)]
        rfl
      subst hrf
      have HF := Lib.hid hf
      clear hf hd
      go_wp2_with fail
      go_ret
      exact ⟨_, rfl, rfl, HF.out⟩
set_option maxRecDepth 100000 in
set_option maxHeartbeats 4000000 in
theorem has117 (g n c : Nat) (ss : List (ByteArray × ByteArray × ByteArray)) (w : World) (hn : n ≤ 9) (hl : ss.length = n) (hb : Blk w g 176 (selCells ss).toArray) :
    Calls Tryz.prog 117 #[.slice (some ⟨g, 0, none⟩) n c, .func (.func 118) #[] #[]] w (IsB (foldB ss) w) := by
  have HI := Lib.hid (idx168 g n c ss w hn hl hb)
  generalize foldB ss = r at *
  clear hb
  go_enter Tryz.func117, Tryz.ntmps117
  go_wp2_with fail
  refine HI.out.mono ?_
  rintro e w1 ⟨k, rfl, hk, hf⟩
  go_wp2_with fail
  go_ret
  exact ⟨by rw [← hk]; rfl, hf⟩
set_option maxRecDepth 100000 in
set_option maxHeartbeats 4000000 in
/-- Is there a BY, or a fold? -/
theorem grouped_any (kind t : ByteArray) (dis : Bool) (g n c n2 c2 n3 c3 n4 c4 : Nat) (A2 A3 A4 : Option Addr) (ss : List (ByteArray × ByteArray × ByteArray)) (w : World) (hn : n ≤ 9) (hl : ss.length = n) (hb : Blk w g 176 (selCells ss).toArray) :
    Calls Tryz.prog 57 #[.agg #[.string kind, .string t, .bool dis, .slice (some ⟨g, 0, none⟩) n c, .slice A2 n2 c2, .slice A3 n3 c3, .slice A4 n4 c4]] w (IsB (decide (0 < n4) || foldB ss) w) := by
  have hf0 : Fr (fun _ => False) w (w.alloc (.cells #[.string kind, .string t, .bool dis, .slice (some ⟨g, 0, none⟩) n c, .slice A2 n2 c2, .slice A3 n3 c3, .slice A4 n4 c4] 30)) := (Fr.refl _ _).alloc _
  have HH := Lib.hid (has117 g n c ss _ hn hl (hb.fr hf0 (fun h => h)))
  have HF := Lib.hid hf0
  generalize foldB ss = r at *
  clear hb hf0 hl
  by_cases h4 : 0 < n4
  · rw [decide_eq_true h4]
    have h4' : ((n4 : Int) > 0) := by omega
    go_enter Tryz.func57, Tryz.ntmps57
    go_wp2_with fail
    go_ret
    exact ⟨rfl, HF.out⟩
  · obtain rfl : n4 = 0 := by omega
    go_enter Tryz.func57, Tryz.ntmps57
    go_wp2_with fail
    refine HH.out.mono ?_
    rintro e w1 ⟨rfl, hf1⟩
    go_wp2_with fail
    go_ret
    exact ⟨by simp, HF.out.trans' hf1⟩

set_option maxRecDepth 100000 in
set_option maxHeartbeats 4000000 in
/-- Without BY all rows are one group. -/
theorem groups_none (V R N : Option Addr) (m vc n rc c : Nat) (w : World) : Calls Tryz.prog 58 #[.agg #[.slice V m vc, .slice R n rc], .slice N 0 c] w fun e w' => ∃ g, e = .returned (.slice (some ⟨g, 0, none⟩) 1 1) ∧ Blk w' g 63 #[.slice V m vc, .slice R n rc] ∧ w.heap.size ≤ g ∧ Fr (fun _ => False) w w' := by
  go_enter Tryz.func58, Tryz.ntmps58
  go_wp2_with fail
  go_ret
  refine ⟨w.heap.size + 2, rfl, ?_, by omega, (((Fr.refl _ _).alloc _).alloc _).alloc _⟩
  have h := Blk.new ((w.alloc (.cells #[.slice V m vc, .slice R n rc] 63)).alloc (.cells #[.slice N 0 c] 28)) 63 #[.slice V m vc, .slice R n rc]
  rw [show ((w.alloc (.cells #[.slice V m vc, .slice R n rc] 63)).alloc (.cells #[.slice N 0 c] 28)).heap.size = w.heap.size + 2 by simp] at h
  exact h

theorem small_size : ∀ i, i < 100 → (⟨(Lib.decDigits i).toArray⟩ : ByteArray).size ≤ 4096 := by decide +kernel
theorem small_short (n : Nat) (hn : n < 100) : (smallTm n).short := ⟨small_size n hn, by decide, by decide⟩
def RowOk (w : World) (Bd b r : Nat) (vt : Value) (x : Int) (l : List Tm) (room : Int) (e : Ending) (w' : World) : Prop :=
  ∃ vt' A c, e = .returned (.tuple #[.slice A 1 c, .int .i64 0]) ∧ IntRow w' w.heap.size (.slice A 1 c) [x] ∧ IsDict w' Bd b r vt' l room ∧ Fr (fun j => j = b ∨ j = r ∨ vt.ownBlock = some j) w w' ∧ ∀ k, vt'.ownBlock = some k → vt.ownBlock = some k ∨ w.heap.size ≤ k
def RowBad (w : World) (Bd b r : Nat) (vt : Value) (x : Int) (l : List Tm) (room : Int) (e : Ending) (w' : World) : Prop :=
  ∃ vt', e = .returned (.tuple #[.slice none 0 0, .int .i64 x]) ∧ IsDict w' Bd b r vt' l room ∧ Fr (fun j => j = b ∨ j = r ∨ vt.ownBlock = some j) w w' ∧ ∀ k, vt'.ownBlock = some k → vt.ownBlock = some k ∨ w.heap.size ≤ k

set_option maxRecDepth 100000 in
set_option maxHeartbeats 40000000 in
/-- The row of a group that is counted; there is room. -/
theorem row59_ok (kind t v f : ByteArray) (dis : Bool) (g sc n2 c2 n3 c3 n4 c4 : Nat) (A2 A3 A4 V R : Option Addr) (m vc n rc Bd b r : Nat) (vt : Value) (ts : List Tm) (room : Int) (w : World) (hf : f.toList.isEmpty = false) (hn : n < 100) (hlen : ts.length ≤ 1000) (hBd : Bd ≤ w.heap.size)
    (hE : putE ts (smallTm n) room = 0) (hb : Blk w g 176 #[.string v, .string f, .string ⟨#[42]⟩]) (hd : IsDict w Bd b r vt ts room) :
    Calls Tryz.prog 59 #[.agg #[.string kind, .string t, .bool dis, .slice (some ⟨g, 0, none⟩) 1 sc, .slice A2 n2 c2, .slice A3 n3 c3, .slice A4 n4 c4], .agg #[.slice V m vc, .slice R n rc], .pointer (some ⟨b, 0, none⟩)] w
      (RowOk w Bd b r vt (putN ts (smallTm n) room) (putL ts (smallTm n) room) room) := by
  obtain ⟨i3, hi3, hz30, hz31, hz32⟩ := info_parts info3
  have hf0 : Fr (fun _ => False) w ((w.alloc (.cells #[.string kind, .string t, .bool dis, .slice (some ⟨g, 0, none⟩) 1 sc, .slice A2 n2 c2, .slice A3 n3 c3, .slice A4 n4 c4] 30)).alloc (.cells #[.slice V m vc, .slice R n rc] 63)) := ((Fr.refl _ _).alloc _).alloc _
  have hz1 : (w.alloc (.cells #[.string kind, .string t, .bool dis, .slice (some ⟨g, 0, none⟩) 1 sc, .slice A2 n2 c2, .slice A3 n3 c3, .slice A4 n4 c4] 30)).heap.size = w.heap.size + 1 := by simp
  have hg1 := Blk.new (w.alloc (.cells #[.string kind, .string t, .bool dis, .slice (some ⟨g, 0, none⟩) 1 sc, .slice A2 n2 c2, .slice A3 n3 c3, .slice A4 n4 c4] 30)) 63 #[.slice V m vc, .slice R n rc]
  rw [hz1] at hg1
  have HT := Lib.hid hg1
  have HB := Lib.hid (hb.fr hf0 (fun h => h))
  have HD := Lib.hid (hd.frF hf0)
  have HF0 := Lib.hid hf0
  have hgl := hb.lt
  have HFS := Lib.hid (fun dv w => fold_star f dv V R m vc n rc w hn)
  have HP := Lib.hid (fun w1 hB1 h1 => put_any w1 Bd b r vt ts room (smallTm n) h1 (small_short n hn) (by omega) hB1)
  rw [hE] at HP
  obtain ⟨x, hx⟩ : ∃ x, x = putN ts (smallTm n) room := ⟨_, rfl⟩
  rw [← hx] at HP ⊢
  have hf1 := hf
  have hf2 := toList_ne hf
  have hf3 : (!f.toList.isEmpty) = true := by rw [hf]; rfl
  obtain ⟨d0, y0, hty⟩ := Tm.shape (smallTm n)
  rw [hty] at HFS HP
  have HBD := Lib.hid hBd
  clear hb hd hf0 hz1 hg1 hE hx hf hlen hBd
  go_enter Tryz.func59, Tryz.ntmps59
  go_wp2_with fail
  have hsz1 : w.heap.size + 2 = ((w.alloc (.cells #[.string kind, .string t, .bool dis, .slice (some ⟨g, 0, none⟩) 1 sc, .slice A2 n2 c2, .slice A3 n3 c3, .slice A4 n4 c4] 30)).alloc (.cells #[.slice V m vc, .slice R n rc] 63)).heap.size := by simp
  have HSZ := Lib.hid hsz1
  clear hsz1
  generalize (w.alloc (.cells #[.string kind, .string t, .bool dis, .slice (some ⟨g, 0, none⟩) 1 sc, .slice A2 n2 c2, .slice A3 n3 c3, .slice A4 n4 c4] 30)).alloc (.cells #[.slice V m vc, .slice R n rc] 63) = w1 at *
  go_loopw [8, 19] (fun ov iv wr => (ov = .slice none 0 0 ∧ iv = .int .i64 0 ∧ w1 = wr) ∨ (∃ A c vt', ov = .slice A 1 c ∧ iv = .int .i64 1 ∧ IntRow wr w.heap.size (.slice A 1 c) [x] ∧ IsDict wr Bd b r vt' (putL ts (smallTm n) room) room ∧ Fr (fun j => j = b ∨ j = r ∨ vt.ownBlock = some j) w wr ∧ ∀ k, vt'.ownBlock = some k → vt.ownBlock = some k ∨ w.heap.size ≤ k)) (fun _ iv _ => 1 - (intOf iv).toNat)
  case atStart => exact .inl ⟨rfl, rfl, rfl⟩
  case round =>
    rcases hrel with ⟨rfl, rfl, rfl⟩ | ⟨A, c, vt', rfl, rfl, hrow, hd, hfr, hown⟩
    · have s0 : w1.cell? ⟨g, 0, none⟩ = some (.string v) := HB.out.cell 0
      have s1 : w1.cell? ⟨g, 1, none⟩ = some (.string f) := HB.out.cell 1
      have s2 : w1.cell? ⟨g, 2, none⟩ = some (.string ⟨#[42]⟩) := HB.out.cell 2
      have t0 : w1.cell? ⟨w.heap.size + 1, 0, none⟩ = some (.slice V m vc) := HT.out.cell 0
      have t1 : w1.cell? ⟨w.heap.size + 1, 1, none⟩ = some (.slice R n rc) := HT.out.cell 1
      have htl := HT.out.lt
      have hgl1 := HB.out.lt
      have hfa : Fr (fun _ => False) w1 (w1.alloc (.cells #[.string v, .string f, .string ⟨#[42]⟩] 176)) := (Fr.refl _ _).alloc _
      have HDA := Lib.hid (HD.out.frF hfa)
      have HFA := Lib.hid (HF0.out.trans' hfa)
      clear hfa
      go_wp2_with fail
      refine (HFS.out _ _).mono ?_
      rintro e w2 ⟨rfl, hf2'⟩
      have HD2 := Lib.hid (HDA.out.frF hf2')
      have HF2 := Lib.hid (HFA.out.trans' hf2')
      clear hf2' s0 s1 s2 t0 t1
      go_wp2_with fail
      refine (HP.out _ (Nat.le_trans HBD.out HF2.out.size) HD2.out).mono ?_
      rintro e w3 ⟨vt', rfl, hd3, hf3', hown3⟩
      have HD3 := Lib.hid hd3
      have HF3 := Lib.hid ((HF2.out.mono (T := fun j => j = b ∨ j = r ∨ vt.ownBlock = some j) (fun _ _ h => h.elim)).trans' hf3')
      have HO3 := Lib.hid (fun k (h : vt'.ownBlock = some k) => (hown3 k h).imp id (fun h2 => Nat.le_trans HF2.out.size h2))
      have hsz3 := HF3.out.size
      clear hd3 hf3' hown3
      go_wp2_with (at_builtin; refine wpList_append_own _ rfl _ _ 48 rfl w.heap.size 3 i3 _ 1 8 Tryz.underlying48 hi3 hz30 hz31 hz32 rfl (by decide) (.slice none 0 0) 0 [] (by rfl) (World.ownsRow_nil _ _ _ _) ⟨w3.heap.size, 0, none⟩ 1 1 [.int .i64 x] (by rfl) rfl (World.news_of_block (heap_alloc_new w3 _)) (by intro u hu; rw [List.mem_singleton] at hu; rw [hu]; rfl) (by unfold maxLen; omega) (by omega) (by simp; omega) ?_; intro v7 w7 hown7 hgr7 _; obtain ⟨A7, c7, hv7⟩ := row_shape hown7; subst hv7; have HOWN7 := Lib.hid hown7; have HGR7 := Lib.hid hgr7; clear hown7 hgr7)
      have HF7 := Lib.hid (show Fr (fun _ => False) w3 w7 from ((Fr.refl _ w3).alloc _).trans (Fr.of_grown HGR7.out) (fun j _ e => by cases e))
      have HI7 := Lib.hid (show IntRow w7 w.heap.size (.slice A7 1 c7) [x] from HOWN7.out)
      have HD7 := Lib.hid (HD3.out.frF HF7.out)
      have HFF := Lib.hid (HF3.out.trans HF7.out (fun _ _ h => h.elim))
      clear HGR7 HOWN7
      go_roundw
      case rel => exact .inr ⟨A7, c7, vt', rfl, rfl, HI7.out, HD7.out, HFF.out, HO3.out⟩
      case measure => simp [intOf]
    · have HR := Lib.hid hrow
      have HDD := Lib.hid hd
      have HFF := Lib.hid hfr
      have HO := Lib.hid hown
      clear hrow hd hfr hown
      go_wp2_with fail
      go_ret2
      exact ⟨vt', A, c, rfl, HR.out, HDD.out, HFF.out, HO.out⟩

set_option maxRecDepth 100000 in
set_option maxHeartbeats 40000000 in
/-- The row of a group that is counted; there is no room. -/
theorem row59_bad (xe : Int) (hxe : ¬ xe = 0) (kind t v f : ByteArray) (dis : Bool) (g sc n2 c2 n3 c3 n4 c4 : Nat) (A2 A3 A4 V R : Option Addr) (m vc n rc Bd b r : Nat) (vt : Value) (ts : List Tm) (room : Int) (w : World) (hf : f.toList.isEmpty = false) (hn : n < 100) (hlen : ts.length ≤ 1000) (hBd : Bd ≤ w.heap.size)
    (hE : putE ts (smallTm n) room = xe) (hb : Blk w g 176 #[.string v, .string f, .string ⟨#[42]⟩]) (hd : IsDict w Bd b r vt ts room) :
    Calls Tryz.prog 59 #[.agg #[.string kind, .string t, .bool dis, .slice (some ⟨g, 0, none⟩) 1 sc, .slice A2 n2 c2, .slice A3 n3 c3, .slice A4 n4 c4], .agg #[.slice V m vc, .slice R n rc], .pointer (some ⟨b, 0, none⟩)] w
      (RowBad w Bd b r vt xe (putL ts (smallTm n) room) room) := by
  obtain ⟨i3, hi3, hz30, hz31, hz32⟩ := info_parts info3
  have hf0 : Fr (fun _ => False) w ((w.alloc (.cells #[.string kind, .string t, .bool dis, .slice (some ⟨g, 0, none⟩) 1 sc, .slice A2 n2 c2, .slice A3 n3 c3, .slice A4 n4 c4] 30)).alloc (.cells #[.slice V m vc, .slice R n rc] 63)) := ((Fr.refl _ _).alloc _).alloc _
  have hz1 : (w.alloc (.cells #[.string kind, .string t, .bool dis, .slice (some ⟨g, 0, none⟩) 1 sc, .slice A2 n2 c2, .slice A3 n3 c3, .slice A4 n4 c4] 30)).heap.size = w.heap.size + 1 := by simp
  have hg1 := Blk.new (w.alloc (.cells #[.string kind, .string t, .bool dis, .slice (some ⟨g, 0, none⟩) 1 sc, .slice A2 n2 c2, .slice A3 n3 c3, .slice A4 n4 c4] 30)) 63 #[.slice V m vc, .slice R n rc]
  rw [hz1] at hg1
  have HT := Lib.hid hg1
  have HB := Lib.hid (hb.fr hf0 (fun h => h))
  have HD := Lib.hid (hd.frF hf0)
  have HF0 := Lib.hid hf0
  have hgl := hb.lt
  have HFS := Lib.hid (fun dv w => fold_star f dv V R m vc n rc w hn)
  have HP := Lib.hid (fun w1 hB1 h1 => put_any w1 Bd b r vt ts room (smallTm n) h1 (small_short n hn) (by omega) hB1)
  rw [hE] at HP
  have hxe1 : (xe == 0) = false := by simpa using hxe
  have hxe2 : (xe != 0) = true := by simpa using hxe
  generalize putN ts (smallTm n) room = x at *
  have hf1 := hf
  have hf2 := toList_ne hf
  have hf3 : (!f.toList.isEmpty) = true := by rw [hf]; rfl
  obtain ⟨d0, y0, hty⟩ := Tm.shape (smallTm n)
  rw [hty] at HFS HP
  have HBD := Lib.hid hBd
  clear hb hd hf0 hz1 hg1 hE hf hlen hBd
  go_enter Tryz.func59, Tryz.ntmps59
  go_wp2_with fail
  have hsz1 : w.heap.size + 2 = ((w.alloc (.cells #[.string kind, .string t, .bool dis, .slice (some ⟨g, 0, none⟩) 1 sc, .slice A2 n2 c2, .slice A3 n3 c3, .slice A4 n4 c4] 30)).alloc (.cells #[.slice V m vc, .slice R n rc] 63)).heap.size := by simp
  have HSZ := Lib.hid hsz1
  clear hsz1
  generalize (w.alloc (.cells #[.string kind, .string t, .bool dis, .slice (some ⟨g, 0, none⟩) 1 sc, .slice A2 n2 c2, .slice A3 n3 c3, .slice A4 n4 c4] 30)).alloc (.cells #[.slice V m vc, .slice R n rc] 63) = w1 at *
  go_loopw [8, 19] (fun ov iv wr => ov = .slice none 0 0 ∧ iv = .int .i64 0 ∧ w1 = wr) (fun _ iv _ => 1 - (intOf iv).toNat)
  case atStart => exact ⟨rfl, rfl, rfl⟩
  case round =>
    obtain ⟨rfl, rfl, rfl⟩ := hrel
    · have s0 : w1.cell? ⟨g, 0, none⟩ = some (.string v) := HB.out.cell 0
      have s1 : w1.cell? ⟨g, 1, none⟩ = some (.string f) := HB.out.cell 1
      have s2 : w1.cell? ⟨g, 2, none⟩ = some (.string ⟨#[42]⟩) := HB.out.cell 2
      have t0 : w1.cell? ⟨w.heap.size + 1, 0, none⟩ = some (.slice V m vc) := HT.out.cell 0
      have t1 : w1.cell? ⟨w.heap.size + 1, 1, none⟩ = some (.slice R n rc) := HT.out.cell 1
      have htl := HT.out.lt
      have hgl1 := HB.out.lt
      have hfa : Fr (fun _ => False) w1 (w1.alloc (.cells #[.string v, .string f, .string ⟨#[42]⟩] 176)) := (Fr.refl _ _).alloc _
      have HDA := Lib.hid (HD.out.frF hfa)
      have HFA := Lib.hid (HF0.out.trans' hfa)
      clear hfa
      go_wp2_with fail
      refine (HFS.out _ _).mono ?_
      rintro e w2 ⟨rfl, hf2'⟩
      have HD2 := Lib.hid (HDA.out.frF hf2')
      have HF2 := Lib.hid (HFA.out.trans' hf2')
      clear hf2' s0 s1 s2 t0 t1
      go_wp2_with fail
      refine (HP.out _ (Nat.le_trans HBD.out HF2.out.size) HD2.out).mono ?_
      rintro e w3 ⟨vt', rfl, hd3, hf3', hown3⟩
      have HD3 := Lib.hid hd3
      have HF3 := Lib.hid ((HF2.out.mono (T := fun j => j = b ∨ j = r ∨ vt.ownBlock = some j) (fun _ _ h => h.elim)).trans' hf3')
      have HO3 := Lib.hid (fun k (h : vt'.ownBlock = some k) => (hown3 k h).imp id (fun h2 => Nat.le_trans HF2.out.size h2))
      have hsz3 := HF3.out.size
      clear hd3 hf3' hown3
      go_wp2_with fail
      go_ret2
      exact ⟨vt', rfl, HD3.out, HF3.out, HO3.out⟩

end Go.Proofs.YtebddgdkndmpjaaGreatDoor
