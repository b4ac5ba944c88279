/- Strings in order: walked. -/
import Derived.Test.YtebddgdkndmpjaaGreatDoorGg
import Derived.Deep.CutBlock
import Derived.Deep.RegionLawGrows
import Derived.Deep.Cut
import Derived.Deep.CutRange
import Derived.WalkKit
import Derived.WalkLawsBesides
import Derived.WalkSpells
import Derived.Deep.QuietTactic
import Derived.BigRegion
import Derived.BigQuiet
import Derived.Lib.Hide
import Derived.Outline
import Derived.Deep.AppendLies
import Derived.Deep.RegionLaw
import Derived.Deep.RegionWith
import Derived.Deep.RegionHeld3
import Derived.Deep.LoopGhost
import Derived.Deep.DeepFit
import Derived.Laws.ResultCell
import Derived.Laws.RangeAny
import Derived.Deep.MidRow
import Derived.StillTailTactics
import Derived.OpenShut
namespace Go.Proofs.YtebddgdkndmpjaaGreatDoor
set_option linter.unusedVariables false
open Go.RowKit Go

theorem row_pos {w : World} {B : Nat} {e : TypeId} {size n : Nat} {v : Value} {xs : List Value} (h : w.ownsRow B e size v n xs) (hn : 0 < n) : ∃ g c, v = .slice (some ⟨g, 0, none⟩) n c := by
  rcases h.2 with ⟨h1, h2⟩ | ⟨g, cap, cur, h1, _⟩
  · omega
  · exact ⟨_, _, h1⟩
theorem add_cell (g j : Nat) : (⟨g, 0, none⟩ : Addr).add j = ⟨g, j, none⟩ := by
  unfold Addr.add
  simp
  try omega
theorem cell_fr {w w' : World} {a : Addr} {v : Value} (hf : Fr (fun _ => False) w w') (h : w.cell? a = some v) : w'.cell? a = some v := by
  have hl := World.block_lt_of_cell? w _ h
  rw [World.cell?_of_block (hf.block a.block hl (fun h => h))]
  exact h
theorem cell_frS {S : Nat → Prop} {w w' : World} {a : Addr} {v : Value} (hf : Fr S w w') (hs : ¬ S a.block) (h : w.cell? a = some v) : w'.cell? a = some v := by
  have hl := World.block_lt_of_cell? w _ h
  rw [World.cell?_of_block (hf.block a.block hl hs)]
  exact h


set_option maxHeartbeats 1000000 in
theorem notnan_any (s : ByteArray) (w : World) : Calls Tryz.prog 217 #[.string s] w fun e w' => e = .returned (.bool false) ∧ w = w' := by
  go_enter Tryz.func217, Tryz.ntmps217
  go_wp2_with fail
  go_ret
  exact ⟨rfl, rfl⟩

set_option maxHeartbeats 1000000 in
theorem less_any (a b : ByteArray) (w : World) : Calls Tryz.prog 171 #[.string a, .string b] w fun e w' => e = .returned (.bool (Op.bytesLess a.toList b.toList)) ∧ w' = w := by
  have HN := Lib.hid (fun s w => notnan_any s w)
  go_enter Tryz.func171, Tryz.ntmps171
  go_wp2_with fail
  refine (HN.out _ _).mono ?_
  rintro e w1 ⟨rfl, rfl⟩
  go_wp2_with fail
  go_ret
  exact ⟨rfl, rfl⟩

set_option maxRecDepth 100000 in
set_option maxHeartbeats 4000000 in
theorem isort_any (g n c : Nat) (ss : List ByteArray) (w : World) (hn : n ≤ 4096) (hc : ∀ j, j < n → w.cell? ⟨g, j, none⟩ = some (.string (ss.getD j ByteArray.empty)))
    (hr : ∀ j, j + 1 < n → Op.bytesLess (ss.getD (j + 1) ByteArray.empty).toList (ss.getD j ByteArray.empty).toList = false) :
    Calls Tryz.prog 177 #[.slice (some ⟨g, 0, none⟩) n c, .int .i64 0, .int .i64 n] w fun e w' => e = .returned (.tuple #[]) ∧ Fr (fun _ => False) w w' := by
  have HL := Lib.hid (fun a b w => less_any a b w)
  have HC := Lib.hid hc
  have HR := Lib.hid hr
  clear hc hr
  go_enter Tryz.func177, Tryz.ntmps177
  go_wp2_with fail
  go_loopw [6] (fun iv wr => ∃ m : Nat, iv = .int .i64 ((m : Int) + 1) ∧ Fr (fun _ => False) w wr) (fun iv _ => n + 1 - (intOf iv).toNat)
  case atStart => exact ⟨0, rfl, Fr.refl _ _⟩
  case round =>
    obtain ⟨m, rfl, hf⟩ := hrel
    have HF := Lib.hid hf
    by_cases hk : m + 1 < n
    · have hk' : (m : Int) + 1 < (n : Int) := by omega
      have hpos : decide ((m : Int) + 1 > 0) = true := decide_eq_true (by omega)
      have c0 := cell_fr hf (HC.out m (by omega))
      have c1 := cell_fr hf (HC.out (m + 1) (by omega))
      have hl := HR.out m hk
      generalize ss.getD m ByteArray.empty = y at *
      generalize ss.getD (m + 1) ByteArray.empty = x at *
      clear hf
      go_wp2_with fail
      go_loopw [7] (fun jv wr' => jv = .int .i64 ((m : Int) + 1) ∧ Fr (fun _ => False) wr wr') (fun _ _ => 0)
      case atStart => exact ⟨rfl, Fr.refl _ _⟩
      case round =>
        obtain ⟨rfl, hf2⟩ := hrel
        have d0 := cell_fr hf2 c0
        have d1 := cell_fr hf2 c1
        have HF2 := Lib.hid (HF.out.trans' hf2)
        clear hf2 c0 c1
        go_wp2_with fail
        go_quiet ((go_at_call 171; exact Calls.quiet_of_same (HL.out _ _ _)))
        go_wp2_with fail
        go_roundw
        case rel => exact ⟨m + 1, by go_num, HF2.out.drewN _⟩
        case measure => simp [intOf]; omega
    · have hk' : ¬ (m : Int) + 1 < (n : Int) := by omega
      go_wp2_with fail
      go_end0
      exact ⟨rfl, HF.out⟩


set_option maxRecDepth 100000 in
set_option maxHeartbeats 4000000 in
theorem lenS_any (n : Nat) (hn : n ≤ 9) (w : World) : Calls Tryz.prog 186 #[.int .u64 (n : Int)] w fun e w' => (∃ x, e = .returned (.int .i64 x)) ∧ w' = w := by
  have h : n = 0 ∨ n = 1 ∨ n = 2 ∨ n = 3 ∨ n = 4 ∨ n = 5 ∨ n = 6 ∨ n = 7 ∨ n = 8 ∨ n = 9 := by omega
  rcases h with rfl | rfl | rfl | rfl | rfl | rfl | rfl | rfl | rfl | rfl
  all_goals
    go_enter Tryz.func186, Tryz.ntmps186
    go_wp2_with fail
    go_ret
    exact ⟨⟨_, rfl⟩, rfl⟩
set_option maxRecDepth 100000 in
set_option maxHeartbeats 4000000 in
theorem lenU_any (n : Nat) (hn : n ≤ 9) (w : World) : Calls Tryz.prog 136 #[.int .u64 (n : Int)] w fun e w' => (∃ x, e = .returned (.int .i64 x)) ∧ w' = w := by
  have HL := Lib.hid (fun w => lenS_any n hn w)
  go_enter Tryz.func136, Tryz.ntmps136
  go_wp2_with fail
  refine (HL.out _).mono ?_
  rintro e w1 ⟨⟨x, rfl⟩, rfl⟩
  go_wp2_with fail
  go_ret
  exact ⟨⟨_, rfl⟩, rfl⟩

set_option maxRecDepth 100000 in
set_option maxHeartbeats 4000000 in
theorem pdq_any (g n c : Nat) (ss : List ByteArray) (lim : Int) (w : World) (hn : n ≤ 9) (hc : ∀ j, j < n → w.cell? ⟨g, j, none⟩ = some (.string (ss.getD j ByteArray.empty)))
    (hr : ∀ j, j + 1 < n → Op.bytesLess (ss.getD (j + 1) ByteArray.empty).toList (ss.getD j ByteArray.empty).toList = false) :
    Calls Tryz.prog 135 #[.slice (some ⟨g, 0, none⟩) n c, .int .i64 0, .int .i64 n, .int .i64 lim] w fun e w' => e = .returned (.tuple #[]) ∧ Fr (fun _ => False) w w' := by
  have HI := Lib.hid (fun w hc => isort_any g n c ss w (by omega) hc hr)
  have HC := Lib.hid hc
  have hn12 : (n : Int) ≤ 12 := by omega
  clear hc hr
  go_enter Tryz.func135, Tryz.ntmps135
  go_wp2_with fail
  go_loopw [1, 2, 3] (fun av bv lv wr => av = .int .i64 0 ∧ bv = .int .i64 n ∧ lv = .int .i64 lim ∧ wr = w) (fun _ _ _ _ => 0)
  case atStart => exact ⟨rfl, rfl, rfl, rfl⟩
  case round =>
    obtain ⟨rfl, rfl, rfl, rfl⟩ := hrel
    go_wp2_with fail
    refine (HI.out _ HC.out).mono ?_
    rintro e w1 ⟨rfl, hf⟩
    go_wp2_with fail
    first | go_end0 | refine bodyPost_ret (results_none rfl _ _ _) rfl ?_
    exact ⟨rfl, hf⟩

set_option maxRecDepth 100000 in
set_option maxHeartbeats 4000000 in
theorem sort_any (g n c : Nat) (ss : List ByteArray) (w : World) (hn : n ≤ 9) (hc : ∀ j, j < n → w.cell? ⟨g, j, none⟩ = some (.string (ss.getD j ByteArray.empty)))
    (hr : ∀ j, j + 1 < n → Op.bytesLess (ss.getD (j + 1) ByteArray.empty).toList (ss.getD j ByteArray.empty).toList = false) :
    Calls Tryz.prog 79 #[.slice (some ⟨g, 0, none⟩) n c] w fun e w' => e = .returned (.tuple #[]) ∧ Fr (fun _ => False) w w' := by
  have HP := Lib.hid (fun lim w hc => pdq_any g n c ss lim w hn hc hr)
  have HL := Lib.hid (fun w => lenU_any n hn w)
  have HC := Lib.hid hc
  clear hc hr
  go_enter Tryz.func79, Tryz.ntmps79
  go_wp2_with fail
  refine (HL.out _).mono ?_
  rintro e w1 ⟨⟨x, rfl⟩, rfl⟩
  go_wp2_with fail
  refine (HP.out _ _ HC.out).mono ?_
  rintro e w1 ⟨rfl, hf⟩
  go_wp2_with fail
  go_end0
  exact ⟨rfl, hf⟩

set_option maxRecDepth 100000 in
set_option maxHeartbeats 4000000 in
theorem compact_any (g n c : Nat) (ss : List ByteArray) (w : World) (hn : n ≤ 9) (hc : ∀ j, j < n → w.cell? ⟨g, j, none⟩ = some (.string (ss.getD j ByteArray.empty)))
    (hr : ∀ j, j + 1 < n → ((ss.getD (j + 1) ByteArray.empty).toList == (ss.getD j ByteArray.empty).toList) = false) :
    Calls Tryz.prog 129 #[.slice (some ⟨g, 0, none⟩) n c] w fun e w' => e = .returned (.slice (some ⟨g, 0, none⟩) n c) ∧ Fr (fun _ => False) w w' := by
  have HC := Lib.hid hc
  have HR := Lib.hid hr
  clear hc hr
  by_cases h2 : n < 2
  · have h2' : (n : Int) < 2 := by omega
    go_enter Tryz.func129, Tryz.ntmps129
    go_wp2_with fail
    go_ret
    exact ⟨rfl, Fr.refl _ _⟩
  · have h2' : ¬ (n : Int) < 2 := by omega
    go_enter Tryz.func129, Tryz.ntmps129
    go_wp2_with fail
    go_loopw [3] (fun iv wr => ∃ m : Nat, m + 1 ≤ n ∧ iv = .int .i64 ((m : Int) + 1) ∧ Fr (fun _ => False) w wr) (fun iv _ => n + 1 - (intOf iv).toNat)
    case atStart => exact ⟨0, by omega, rfl, Fr.refl _ _⟩
    case round =>
      obtain ⟨m, hm, rfl, hf⟩ := hrel
      have HF := Lib.hid hf
      by_cases hk : m + 1 < n
      · have hk' : (m : Int) + 1 < (n : Int) := by omega
        have c0 := cell_fr hf (HC.out m (by omega))
        have c1 := cell_fr hf (HC.out (m + 1) (by omega))
        have hl := HR.out m hk
        generalize ss.getD m ByteArray.empty = y at *
        generalize ss.getD (m + 1) ByteArray.empty = x at *
        clear hf
        go_wp2_with fail
        go_quiet (fail)
        go_wp2_with fail
        go_roundw
        case rel => exact ⟨m + 1, by omega, by go_num, HF.out.drewN _⟩
        case measure => simp [intOf]; omega
      · have hk' : ¬ (m : Int) + 1 < (n : Int) := by omega
        go_wp2_with fail
        go_ret
        exact ⟨rfl, HF.out⟩

set_option maxRecDepth 100000 in
set_option maxHeartbeats 4000000 in
theorem clone_any (g n c : Nat) (ss : List ByteArray) (w : World) (hn : n ≤ 4096) (hn0 : 0 < n) (hc : ∀ j, j < n → w.cell? ⟨g, j, none⟩ = some (.string (ss.getD j ByteArray.empty))) (hl : ss.length = n) :
    Calls Tryz.prog 123 #[.slice (some ⟨g, 0, none⟩) n c] w fun e w' => ∃ A c', e = .returned (.slice (some ⟨A, 0, none⟩) n c') ∧ w'.ownsRow w.heap.size 9 1 (.slice (some ⟨A, 0, none⟩) n c') n (ss.map .string) ∧ Fr (fun _ => False) w w' := by
  obtain ⟨i9, hi9, hz90, hz91, hz92⟩ := info_parts info9
  have HC := Lib.hid hc
  clear hc
  have hc2 : ∀ j u, (ss.map Value.string)[j]? = some u → (w.alloc (.cells #[] 9)).cell? ((⟨g, 0, none⟩ : Addr).add j) = some u := by
    intro j u hj
    rw [List.getElem?_map] at hj
    obtain ⟨x, hx, hxu⟩ := Option.map_eq_some_iff.1 hj
    obtain ⟨hlt, he⟩ := List.getElem?_eq_some_iff.1 hx
    have h := HC.out j (by omega)
    rw [List.getD_eq_getElem?_getD, hx, Option.getD_some, hxu] at h
    have e : (⟨g, 0, none⟩ : Addr).add j = ⟨g, j, none⟩ := add_cell g j
    rw [e]
    exact cell_fr ((Fr.refl _ _).alloc _) h
  have hrow : (w.alloc (.cells #[] 9)).ownsRow w.heap.size 9 1 (.slice (some ⟨w.heap.size, 0, none⟩) 0 0) 0 [] := World.ownsRow_lit w #[] 0 (Nat.le_refl _) (by decide) rfl
  have HC2 := Lib.hid hc2
  clear hc2
  have hq : ∀ w, (binOp .eql 28 (.slice (some ⟨g, 0, none⟩) n c) (.slice none 0 0)).run Tryz.prog w = .ok (.bool false) w := fun w => by rfl
  go_enter Tryz.func123, Tryz.ntmps123
  go_wp2_with (at_builtin; refine wpList_append_own _ rfl _ _ 28 rfl w.heap.size 9 i9 _ 1 16 Tryz.underlying28 hi9 hz90 hz91 hz92 rfl (by decide) _ 0 [] (by rfl) hrow ⟨g, 0, none⟩ n c (ss.map .string) (by rfl) (by simp [hl]) HC2.out (by intro u hu; obtain ⟨x, _, rfl⟩ := List.mem_map.1 hu; rfl) (by unfold maxLen; omega) (by omega) (by simp) ?_; intro v2 w2 hown2 hgr2 _; obtain ⟨A2, c2, hv2⟩ := row_pos hown2 (by omega); subst hv2)
  have HF := Lib.hid (((Fr.refl (fun _ => False) w).alloc (.cells #[] 9)).grown hgr2 (fun k hk e => by injection e with e; simp at e; omega))
  have HR := Lib.hid hown2
  go_wp2_with fail
  go_ret
  exact ⟨A2, c2, by simp, by simpa using HR.out, HF.out⟩



set_option maxRecDepth 100000 in
set_option maxHeartbeats 4000000 in
theorem clone_nil (w : World) : Calls Tryz.prog 123 #[.slice none 0 0] w fun e w' => e = .returned (.slice none 0 0) ∧ w = w' := by
  have hq : ∀ w, (binOp .eql 28 (.slice none 0 0) (.slice none 0 0)).run Tryz.prog w = .ok (.bool true) w := fun w => by rfl
  go_enter Tryz.func123, Tryz.ntmps123
  go_wp2_with fail
  go_ret
  exact ⟨rfl, rfl⟩

/-- The strings of a row of the call's own. -/
theorem str_cell {w : World} {B g n c : Nat} {ss : List ByteArray} (h : w.ownsRow B 9 1 (.slice (some ⟨g, 0, none⟩) n c) n (ss.map .string)) (j : Nat) (hj : j < n) : w.cell? ⟨g, j, none⟩ = some (.string (ss.getD j ByteArray.empty)) := by
  have hl : ss.length = n := by have := h.1; simpa using this
  rw [World.ownsRow.cellAt h j (by omega), List.getElem?_map, List.getD_eq_getElem?_getD]
  rw [List.getElem?_eq_getElem (by omega)]
  rfl

set_option maxRecDepth 100000 in
set_option maxHeartbeats 4000000 in
theorem vars_any (g n c : Nat) (ss : List ByteArray) (w : World) (hn0 : 0 < n) (hn : n ≤ 9) (hc : ∀ j, j < n → w.cell? ⟨g, j, none⟩ = some (.string (ss.getD j ByteArray.empty))) (hl : ss.length = n)
    (hr1 : ∀ j, j + 1 < n → Op.bytesLess (ss.getD (j + 1) ByteArray.empty).toList (ss.getD j ByteArray.empty).toList = false)
    (hr2 : ∀ j, j + 1 < n → ((ss.getD (j + 1) ByteArray.empty).toList == (ss.getD j ByteArray.empty).toList) = false) :
    Calls Tryz.prog 69 #[.slice (some ⟨g, 0, none⟩) n c] w fun e w' => ∃ A c', e = .returned (.slice (some ⟨A, 0, none⟩) n c') ∧ w'.ownsRow w.heap.size 9 1 (.slice (some ⟨A, 0, none⟩) n c') n (ss.map .string) ∧ Fr (fun _ => False) w w' := by
  have HCL := Lib.hid (clone_any g n c ss w (by omega) hn0 hc hl)
  have HS := Lib.hid (fun g c w hc => sort_any g n c ss w hn hc hr1)
  have HP := Lib.hid (fun g c w hc => compact_any g n c ss w hn hc hr2)
  clear hc hr1 hr2
  go_enter Tryz.func69, Tryz.ntmps69
  go_wp2_with fail
  refine HCL.out.mono ?_
  rintro e w1 ⟨A, c1, rfl, hrow1, hf1⟩
  have HF1 := Lib.hid hf1
  have HR1 := Lib.hid hrow1
  clear hf1 hrow1
  go_wp2_with fail
  refine (HS.out A c1 _ (str_cell HR1.out)).mono ?_
  rintro e w2 ⟨rfl, hf2⟩
  have HF2 := Lib.hid (HF1.out.trans' hf2)
  have HR2 := Lib.hid (ownsRow_fr HR1.out hf2 (fun _ _ h => h))
  clear hf2
  go_wp2_with fail
  refine (HP.out A c1 _ (str_cell HR2.out)).mono ?_
  rintro e w3 ⟨rfl, hf3⟩
  have HF3 := Lib.hid (HF2.out.trans' hf3)
  have HR3 := Lib.hid (ownsRow_fr HR2.out hf3 (fun _ _ h => h))
  clear hf3
  go_wp2_with fail
  go_ret
  exact ⟨A, c1, rfl, HR3.out, HF3.out⟩

/-! Of no strings. -/
set_option maxRecDepth 100000 in
set_option maxHeartbeats 4000000 in
theorem isort_nil (w : World) : Calls Tryz.prog 177 #[.slice none 0 0, .int .i64 0, .int .i64 0] w fun e w' => e = .returned (.tuple #[]) ∧ w = w' := by
  go_enter Tryz.func177, Tryz.ntmps177
  go_wp2_with fail
  go_loopw [6] (fun iv wr => iv = .int .i64 1 ∧ w = wr) (fun _ _ => 0)
  case atStart => exact ⟨rfl, rfl⟩
  case round =>
    obtain ⟨rfl, rfl⟩ := hrel
    go_wp2_with fail
    go_end0
    exact ⟨rfl, rfl⟩
set_option maxRecDepth 100000 in
set_option maxHeartbeats 4000000 in
theorem pdq_nil (lim : Int) (w : World) : Calls Tryz.prog 135 #[.slice none 0 0, .int .i64 0, .int .i64 0, .int .i64 lim] w fun e w' => e = .returned (.tuple #[]) ∧ w = w' := by
  have HI := Lib.hid (fun w => isort_nil w)
  go_enter Tryz.func135, Tryz.ntmps135
  go_wp2_with fail
  go_loopw [1, 2, 3] (fun av bv lv wr => av = .int .i64 0 ∧ bv = .int .i64 0 ∧ lv = .int .i64 lim ∧ w = wr) (fun _ _ _ _ => 0)
  case atStart => exact ⟨rfl, rfl, rfl, rfl⟩
  case round =>
    obtain ⟨rfl, rfl, rfl, rfl⟩ := hrel
    go_wp2_with fail
    refine (HI.out _).mono ?_
    rintro e w1 ⟨rfl, rfl⟩
    go_wp2_with fail
    first | go_end0 | refine bodyPost_ret (results_none rfl _ _ _) rfl ?_
    exact ⟨rfl, rfl⟩
set_option maxRecDepth 100000 in
set_option maxHeartbeats 4000000 in
theorem sort_nil (w : World) : Calls Tryz.prog 79 #[.slice none 0 0] w fun e w' => e = .returned (.tuple #[]) ∧ w = w' := by
  have HP := Lib.hid (fun lim w => pdq_nil lim w)
  have HL := Lib.hid (fun w => lenU_any 0 (by omega) w)
  go_enter Tryz.func79, Tryz.ntmps79
  go_wp2_with fail
  refine (HL.out _).mono ?_
  rintro e w1 ⟨⟨x, rfl⟩, rfl⟩
  go_wp2_with fail
  refine (HP.out _ _).mono ?_
  rintro e w1 ⟨rfl, rfl⟩
  go_wp2_with fail
  go_end0
  exact ⟨rfl, rfl⟩
set_option maxRecDepth 100000 in
set_option maxHeartbeats 4000000 in
theorem compact_nil (w : World) : Calls Tryz.prog 129 #[.slice none 0 0] w fun e w' => e = .returned (.slice none 0 0) ∧ w = w' := by
  go_enter Tryz.func129, Tryz.ntmps129
  go_wp2_with fail
  go_ret
  exact ⟨rfl, rfl⟩
set_option maxRecDepth 100000 in
set_option maxHeartbeats 4000000 in
theorem vars_nil (w : World) : Calls Tryz.prog 69 #[.slice none 0 0] w fun e w' => e = .returned (.slice none 0 0) ∧ w = w' := by
  have HCL := Lib.hid (fun w => clone_nil w)
  have HS := Lib.hid (fun w => sort_nil w)
  have HP := Lib.hid (fun w => compact_nil w)
  go_enter Tryz.func69, Tryz.ntmps69
  go_wp2_with fail
  refine (HCL.out _).mono ?_
  rintro e w1 ⟨rfl, rfl⟩
  go_wp2_with fail
  refine (HS.out _).mono ?_
  rintro e w1 ⟨rfl, rfl⟩
  go_wp2_with fail
  refine (HP.out _).mono ?_
  rintro e w1 ⟨rfl, rfl⟩
  go_wp2_with fail
  go_ret
  exact ⟨rfl, rfl⟩

/-- Of few strings, rising, or none. -/
theorem varsN_any (n c B : Nat) (N : Option Addr) (ss : List ByteArray) (w : World) (hn : n ≤ 9) (hN : n = 0 → N = none ∧ c = 0) (hs : w.ownsRow B 9 1 (.slice N n c) n (ss.map .string))
    (hr1 : ∀ j, j + 1 < n → Op.bytesLess (ss.getD (j + 1) ByteArray.empty).toList (ss.getD j ByteArray.empty).toList = false)
    (hr2 : ∀ j, j + 1 < n → ((ss.getD (j + 1) ByteArray.empty).toList == (ss.getD j ByteArray.empty).toList) = false) :
    Calls Tryz.prog 69 #[.slice N n c] w fun e w' => ∃ V c', e = .returned (.slice V n c') ∧ w'.ownsRow w.heap.size 9 1 (.slice V n c') n (ss.map .string) ∧ Fr (fun _ => False) w w' := by
  have hl : ss.length = n := by have := hs.1; simpa using this
  by_cases h0 : n = 0
  · subst h0
    obtain ⟨rfl, rfl⟩ := hN rfl
    have he : ss = [] := List.eq_nil_of_length_eq_zero hl
    subst he
    exact (vars_nil w).mono (by rintro e w1 ⟨rfl, rfl⟩; exact ⟨none, 0, rfl, World.ownsRow_nil _ _ _ _, Fr.refl _ _⟩)
  · obtain ⟨g, rfl, _, _, _⟩ := row_form hs (by omega)
    exact (vars_any g n c ss w (by omega) hn (fun j hj => str_cell hs j hj) hl hr1 hr2).mono (by rintro e w1 ⟨A, c', rfl, h1, h2⟩; exact ⟨_, c', rfl, h1, h2⟩)

end Go.Proofs.YtebddgdkndmpjaaGreatDoor
