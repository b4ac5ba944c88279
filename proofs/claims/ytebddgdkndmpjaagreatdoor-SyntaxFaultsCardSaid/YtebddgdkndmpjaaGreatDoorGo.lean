/- The reference's letters, labels and languages: walked. -/
import Derived.Test.YtebddgdkndmpjaaGreatDoorGl
import Derived.Deep.CutBlock
import Derived.Deep.RegionLawGrows
import Derived.Deep.Cut
import Derived.Deep.CutRange
import Derived.WalkKit
import Derived.WalkLawsBesides
import Derived.WalkSpells
import Derived.Deep.QuietTactic
import Derived.BigRegion
import Derived.BigQuiet
import Derived.Lib.Hide
import Derived.Outline
import Derived.Deep.AppendLies
import Derived.Deep.RegionLaw
import Derived.Deep.RegionWith
import Derived.Deep.RegionHeld3
import Derived.Deep.LoopGhost
import Derived.Deep.DeepFit
import Derived.Laws.ResultCell
import Derived.Laws.RangeAny
import Derived.Deep.MidRow
import Derived.StillTailTactics
import Derived.OpenShut
namespace Go.Proofs.YtebddgdkndmpjaaGreatDoor
set_option linter.unusedVariables false
open Go.RowKit Go

/-- A term of the document's. -/
structure DT where
  kind : Int
  text : ByteArray
  type : ByteArray
  lang : ByteArray
def DT.cells (x : DT) : Array Value := #[.int .i64 x.kind, .string x.text, .string x.type, .string x.lang]
def kindOf (k : Int) : Int := wrap64 ((IntKind.u64.wrap k).tmod 3)
theorem kindOf_le (k : Int) : 0 ≤ kindOf k ∧ kindOf k ≤ 2 := by
  have h : 0 ≤ IntKind.u64.wrap k := by
    unfold IntKind.wrap
    simp [IntKind.signed, IntKind.bits]
    omega
  have h2 := Int.tmod_nonneg 3 h
  have h3 := Int.tmod_lt_of_pos (IntKind.u64.wrap k) (show (0 : Int) < 3 by decide)
  unfold kindOf
  have e : wrap64 ((IntKind.u64.wrap k).tmod 3) = (IntKind.u64.wrap k).tmod 3 := by
    unfold wrap64
    omega
  omega
def plainT (x : DT) : DT := if kindOf x.kind = 2 then ⟨2, x.text, x.type, x.lang⟩ else ⟨kindOf x.kind, x.text, ⟨#[]⟩, ⟨#[]⟩⟩

set_option maxRecDepth 100000 in
set_option maxHeartbeats 4000000 in
theorem plainT_any (x : DT) (w : World) : Calls Tryz.prog 53 #[.agg x.cells] w fun e w' => e = .returned (.agg (plainT x).cells) ∧ Fr (fun _ => False) w w' := by
  obtain ⟨k, t, ty, l⟩ := x
  unfold plainT
  obtain ⟨kk, hk⟩ : ∃ kk, wrap64 ((IntKind.u64.wrap k).tmod 3) = kk := ⟨_, rfl⟩
  have HK := Lib.hid (show kindOf k = kk from hk)
  rw [show kindOf (DT.kind ⟨k, t, ty, l⟩) = kk from HK.out]
  unfold DT.cells
  by_cases h2 : kk = 2
  · have h2' : (kk != 2) = false := by simp [h2]
    rw [if_pos h2]
    subst h2
    go_enter Tryz.func53, Tryz.ntmps53
    go_wp2_with fail
    have hb := Blk.new (w.alloc (.cells #[.int .i64 2, .string t, .string ty, .string l] 52)) 52 #[.int .i64 2, .string t, .string ty, .string l]
    have hsz : (w.alloc (.cells #[.int .i64 2, .string t, .string ty, .string l] 52)).heap.size = w.heap.size + 1 := by simp
    rw [hsz] at hb
    exact bodyPost_ret (v := .agg #[.int .i64 2, .string t, .string ty, .string l]) (results_cell_row rfl _ _ (w.heap.size + 1) 52 _ (0, 0) _ rfl hb Tryz.underlying52 rfl (by kernel_rfl)) rfl ⟨rfl, ((Fr.refl _ _).alloc _).alloc _⟩
  · have h2' : (kk != 2) = true := by simp [h2]
    rw [if_neg h2]
    clear h2
    go_enter Tryz.func53, Tryz.ntmps53
    go_wp2_with fail
    have hb := Blk.new (w.alloc (.cells #[.int .i64 kk, .string t, .string ⟨#[]⟩, .string ⟨#[]⟩] 52)) 52 #[.int .i64 kk, .string t, .string ⟨#[]⟩, .string ⟨#[]⟩]
    have hsz : (w.alloc (.cells #[.int .i64 kk, .string t, .string ⟨#[]⟩, .string ⟨#[]⟩] 52)).heap.size = w.heap.size + 1 := by simp
    rw [hsz] at hb
    exact bodyPost_ret (v := .agg #[.int .i64 kk, .string t, .string ⟨#[]⟩, .string ⟨#[]⟩]) (results_cell_row rfl _ _ (w.heap.size + 1) 52 _ (0, 0) _ rfl hb Tryz.underlying52 rfl (by kernel_rfl)) rfl ⟨rfl, ((Fr.refl _ _).alloc _).alloc _⟩

/-- A term of the document's as the program's. -/
def toTm (x : DT) : Tm := if x.kind = 0 then .bla x.text else if x.kind = 1 then .iri x.text else .lit x.text x.type x.lang

set_option maxRecDepth 100000 in
set_option maxHeartbeats 4000000 in
theorem realT_any (x : DT) (w : World) (hk0 : 0 ≤ x.kind) (hk2 : x.kind ≤ 2) : Calls Tryz.prog 54 #[.agg x.cells] w fun e w' => e = .returned (toTm x).val ∧ Fr (fun _ => False) w w' := by
  obtain ⟨k, t, ty, l⟩ := x
  simp only at hk0 hk2
  unfold toTm DT.cells
  simp only
  by_cases h0 : k = 0
  · subst h0
    rw [if_pos rfl]
    unfold Tm.val
    go_enter Tryz.func54, Tryz.ntmps54
    go_wp2_with fail
    go_ret
    exact ⟨rfl, (Fr.refl _ _).alloc _⟩
  · by_cases h1 : k = 1
    · subst h1
      rw [if_neg h0, if_pos rfl]
      clear h0
      unfold Tm.val
      go_enter Tryz.func54, Tryz.ntmps54
      go_wp2_with fail
      go_ret
      exact ⟨rfl, (Fr.refl _ _).alloc _⟩
    · have h2 : k = 2 := by omega
      subst h2
      rw [if_neg h0, if_neg h1]
      clear h0 h1
      unfold Tm.val
      go_enter Tryz.func54, Tryz.ntmps54
      go_wp2_with fail
      go_ret
      exact ⟨rfl, (Fr.refl _ _).alloc _⟩

def letterB (c : Int) : Bool := decide ((97 ≤ c ∧ c ≤ 122) ∨ (65 ≤ c ∧ c ≤ 90))
def digitB (c : Int) : Bool := decide (48 ≤ c ∧ c ≤ 57)

set_option maxRecDepth 100000 in
set_option maxHeartbeats 4000000 in
theorem rletter_any (c : Int) (w : World) : Calls Tryz.prog 155 #[.int .u8 c] w fun e w' => e = .returned (.bool (letterB c)) ∧ w = w' := by
  by_cases h1 : 97 ≤ c
  · have h1' : decide (97 ≤ c) = true := decide_eq_true h1
    by_cases h2 : c ≤ 122
    · have h2' : decide (c ≤ 122) = true := decide_eq_true h2
      have HL := Lib.hid (show letterB c = true from decide_eq_true (by omega))
      go_enter Tryz.func155, Tryz.ntmps155
      go_wp2_with fail
      go_ret
      exact ⟨by rw [HL.out]; rfl, rfl⟩
    · have h2' : decide (c ≤ 122) = false := decide_eq_false h2
      have h3 : 65 ≤ c := by omega
      have h3' : decide (65 ≤ c) = true := decide_eq_true h3
      have h4' : decide (c ≤ 90) = false := decide_eq_false (by omega)
      have HL := Lib.hid (show letterB c = false from decide_eq_false (by omega))
      go_enter Tryz.func155, Tryz.ntmps155
      go_wp2_with fail
      go_ret
      exact ⟨by rw [HL.out]; rfl, rfl⟩
  · have h1' : decide (97 ≤ c) = false := decide_eq_false h1
    by_cases h3 : 65 ≤ c
    · have h3' : decide (65 ≤ c) = true := decide_eq_true h3
      by_cases h4 : c ≤ 90
      · have h4' : decide (c ≤ 90) = true := decide_eq_true h4
        have HL := Lib.hid (show letterB c = true from decide_eq_true (by omega))
        go_enter Tryz.func155, Tryz.ntmps155
        go_wp2_with fail
        go_ret
        exact ⟨by rw [HL.out]; rfl, rfl⟩
      · have h4' : decide (c ≤ 90) = false := decide_eq_false h4
        have HL := Lib.hid (show letterB c = false from decide_eq_false (by omega))
        go_enter Tryz.func155, Tryz.ntmps155
        go_wp2_with fail
        go_ret
        exact ⟨by rw [HL.out]; rfl, rfl⟩
    · have h3' : decide (65 ≤ c) = false := decide_eq_false h3
      have HL := Lib.hid (show letterB c = false from decide_eq_false (by omega))
      go_enter Tryz.func155, Tryz.ntmps155
      go_wp2_with fail
      go_ret
      exact ⟨by rw [HL.out]; rfl, rfl⟩

theorem digit_any (c : Int) (w : World) : Calls Tryz.prog 156 #[.int .u8 c] w fun e w' => e = .returned (.bool (digitB c)) ∧ w = w' := by
  by_cases h1 : 48 ≤ c
  · have h1' : decide (48 ≤ c) = true := decide_eq_true h1
    obtain ⟨q, hq⟩ : ∃ q, decide (c ≤ 57) = q := ⟨_, rfl⟩
    have HL := Lib.hid (show digitB c = q by rw [← hq]; unfold digitB; simp [h1])
    clear h1
    cases q with
    | true =>
      go_enter Tryz.func156, Tryz.ntmps156
      go_wp2_with fail
      go_ret
      exact ⟨by rw [HL.out]; rfl, rfl⟩
    | false =>
      go_enter Tryz.func156, Tryz.ntmps156
      go_wp2_with fail
      go_ret
      exact ⟨by rw [HL.out]; rfl, rfl⟩
  · have h1' : decide (48 ≤ c) = false := decide_eq_false h1
    have HL := Lib.hid (show digitB c = false from decide_eq_false (by omega))
    go_enter Tryz.func156, Tryz.ntmps156
    go_wp2_with fail
    go_ret
    exact ⟨by rw [HL.out]; rfl, rfl⟩

/-- A byte at a place; 0 beyond. -/
def byteAt (s : ByteArray) (i : Nat) : Int := ((s.data.toList.getD i 0).toNat : Int)
/-- May a byte stand at a place of a label, by the document? -/
def rLabelB (i : Nat) (c : Int) : Bool := letterB c || (digitB c || (!decide (i = 0) && (decide (c = 95) || decide (c = 45))))
def rLabelFrom (s : ByteArray) (i : Nat) : Bool := if h : i < s.size then rLabelB i (byteAt s i) && rLabelFrom s (i + 1) else true
termination_by s.size - i
theorem rLabelFrom_step (s : ByteArray) (i : Nat) (h : i < s.size) : rLabelFrom s i = (rLabelB i (byteAt s i) && rLabelFrom s (i + 1)) := by rw [rLabelFrom, dif_pos h]
theorem rLabelFrom_end (s : ByteArray) (i : Nat) (h : ¬ i < s.size) : rLabelFrom s i = true := by rw [rLabelFrom, dif_neg h]
def rLabel (s : ByteArray) : Bool := decide (1 ≤ s.size) && (decide (s.size ≤ 100) && rLabelFrom s 0)
theorem run_index_at {s : ByteArray} {i : Nat} (h : i < s.size) (w : World) : (Instr.index 9 (.string s) (.int .i64 (i : Int))).run Tryz.prog w = .ok (.int .u8 (byteAt s i)) w := by
  rw [run_index_string w 9 s .i64 i Tryz.underlying9, dif_pos ⟨by omega, by omega⟩]
  congr 2
  unfold byteAt
  have hl : i < s.data.toList.length := by simpa using h
  rw [List.getD_eq_getElem?_getD, List.getElem?_eq_getElem hl]
  rfl
theorem byteAt_le (s : ByteArray) (i : Nat) : 0 ≤ byteAt s i ∧ byteAt s i ≤ 255 := by
  unfold byteAt
  have := (s.data.toList.getD i 0).toNat_lt
  omega

set_option maxRecDepth 100000 in
set_option maxHeartbeats 4000000 in
theorem rlabel_any (s : ByteArray) (w : World) (hs : s.size ≤ 4096) : Calls Tryz.prog 106 #[.string s] w fun e w' => e = .returned (.bool (rLabel s)) ∧ w = w' := by
  have HRL := Lib.hid (show rLabel s = (decide (1 ≤ s.size) && (decide (s.size ≤ 100) && rLabelFrom s 0)) from rfl)
  generalize rLabel s = rl at *
  by_cases h1 : s.size < 1
  · have h1' : decide (s.size < 1) = true := decide_eq_true h1
    have h1e : decide ((s.size : Int) < 1) = true := decide_eq_true (by omega)
    have h1f : (s.size : Int) < 1 := by omega
    have HH := Lib.hid (show decide (1 ≤ s.size) = false from decide_eq_false (by omega))
    clear h1
    go_enter Tryz.func106, Tryz.ntmps106
    go_wp2_with fail
    go_ret
    exact ⟨by rw [HRL.out, HH.out]; rfl, rfl⟩
  · have h1e : decide ((s.size : Int) < 1) = false := decide_eq_false (by omega)
    by_cases h2 : 100 < s.size
    · have h2e : decide ((100 : Int) < (s.size : Int)) = true := decide_eq_true (by omega)
      have HH := Lib.hid (show decide (s.size ≤ 100) = false from decide_eq_false (by omega))
      go_enter Tryz.func106, Tryz.ntmps106
      go_wp2_with fail
      go_ret
      exact ⟨by rw [HRL.out, HH.out]; simp, rfl⟩
    · have h2e : decide ((100 : Int) < (s.size : Int)) = false := decide_eq_false (by omega)
      have HH := Lib.hid (show decide (1 ≤ s.size) = true ∧ decide (s.size ≤ 100) = true from ⟨decide_eq_true (by omega), decide_eq_true (by omega)⟩)
      have hs2 : (s.size : Int) ≤ 100 := by omega
      clear h1 h2
      go_enter Tryz.func106, Tryz.ntmps106
      go_wp2_with fail
      clear h1e h2e
      go_loopw [3] (fun iv wr => ∃ i : Nat, iv = .int .i64 (i : Int) ∧ i ≤ s.size ∧ wr = w ∧ rLabelFrom s i = rLabelFrom s 0) (fun iv _ => s.size - (intOf iv).toNat)
      case atStart => exact ⟨0, rfl, Nat.zero_le _, rfl, rfl⟩
      case round =>
        obtain ⟨i, rfl, hi, rfl, htx⟩ := hrel
        by_cases hlt : i < s.size
        · have hlt' : (i : Int) < (s.size : Int) := by omega
          have hix := run_index_at hlt
          rw [rLabelFrom_step s i hlt] at htx
          have hbl := byteAt_le s i
          generalize byteAt s i = c at *
          unfold rLabelB at htx
          have HLE := Lib.hid (fun w => rletter_any c w)
          have HDI := Lib.hid (fun w => digit_any c w)
          generalize letterB c = lb at *
          generalize digitB c = db at *
          have HTX := Lib.hid htx
          clear htx
          go_wp2_with fail
          refine (HLE.out _).mono ?_
          rintro e w1 ⟨rfl, rfl⟩
          cases lb with
          | true =>
            go_wp2_with fail
            go_roundw
            case rel => exact ⟨i + 1, by go_num, by omega, by simp, by have h := HTX.out; simpa using h⟩
            case measure => simp [intOf]; omega
          | false =>
            go_wp2_with fail
            refine (HDI.out _).mono ?_
            rintro e w1 ⟨rfl, rfl⟩
            cases db with
            | true =>
              go_wp2_with fail
              go_roundw
              case rel => exact ⟨i + 1, by go_num, by omega, by simp, by have h := HTX.out; simpa using h⟩
              case measure => simp [intOf]; omega
            | false =>
              by_cases h0 : i = 0
              · subst h0
                go_wp2_with fail
                go_ret
                exact ⟨by rw [HRL.out, ← HTX.out]; simp, rfl⟩
              · have h0' : ((i : Int) == 0) = false := by simp [h0]
                have H0 := Lib.hid h0
                clear h0
                by_cases h5 : c = 95
                · have h5' : (c != 95) = false := by simp [h5]
                  have H5 := Lib.hid h5
                  clear h5
                  go_wp2_with fail
                  go_roundw
                  case rel => exact ⟨i + 1, by go_num, by omega, by simp, by have h := HTX.out; simpa [H0.out, H5.out] using h⟩
                  case measure => simp [intOf]; omega
                · have h5' : (c != 95) = true := by simp [h5]
                  have H5 := Lib.hid h5
                  clear h5
                  by_cases h6 : c = 45
                  · have h6' : (c != 45) = false := by simp [h6]
                    have H6 := Lib.hid h6
                    clear h6
                    go_wp2_with fail
                    go_roundw
                    case rel => exact ⟨i + 1, by go_num, by omega, by simp, by have h := HTX.out; simpa [H0.out, H6.out] using h⟩
                    case measure => simp [intOf]; omega
                  · have h6' : (c != 45) = true := by simp [h6]
                    have H6 := Lib.hid h6
                    clear h6
                    go_wp2_with fail
                    go_ret
                    exact ⟨by rw [HRL.out, ← HTX.out]; simp [H5.out, H6.out], rfl⟩
        · have hge : (s.size : Int) ≤ (i : Int) := by omega
          rw [rLabelFrom_end s i hlt] at htx
          have HTX := Lib.hid htx
          clear htx hlt
          go_wp2_with fail
          go_ret
          exact ⟨by rw [HRL.out, ← HTX.out, HH.out.1, HH.out.2]; rfl, rfl⟩

/-- What the document asks of a language's bytes from a place on: in part 'part', behind 'long' of its signs. -/
def rLangFrom (s : ByteArray) (i part long : Nat) : Bool :=
  if h : i < s.size then
    (if byteAt s i = 45 then !decide (long = 0) && rLangFrom s (i + 1) (part + 1) 0
     else (letterB (byteAt s i) || (!decide (part = 0) && digitB (byteAt s i))) && (decide (long < 8) && rLangFrom s (i + 1) part (long + 1)))
  else decide (0 < long)
termination_by s.size - i
theorem rLangFrom_step (s : ByteArray) (i part long : Nat) (h : i < s.size) : rLangFrom s i part long = (if byteAt s i = 45 then !decide (long = 0) && rLangFrom s (i + 1) (part + 1) 0
     else (letterB (byteAt s i) || (!decide (part = 0) && digitB (byteAt s i))) && (decide (long < 8) && rLangFrom s (i + 1) part (long + 1))) := by rw [rLangFrom, dif_pos h]
theorem rLangFrom_end (s : ByteArray) (i part long : Nat) (h : ¬ i < s.size) : rLangFrom s i part long = decide (0 < long) := by rw [rLangFrom, dif_neg h]
def rLang (s : ByteArray) : Bool := decide (1 ≤ s.size) && (decide (s.size ≤ 40) && rLangFrom s 0 0 0)

set_option maxRecDepth 100000 in
set_option maxHeartbeats 4000000 in
theorem rlang_any (s : ByteArray) (w : World) (hs : s.size ≤ 4096) : Calls Tryz.prog 108 #[.string s] w fun e w' => e = .returned (.bool (rLang s)) ∧ w = w' := by
  have HRL := Lib.hid (show rLang s = (decide (1 ≤ s.size) && (decide (s.size ≤ 40) && rLangFrom s 0 0 0)) from rfl)
  generalize rLang s = rl at *
  by_cases h1 : s.size < 1
  · have h1e : decide ((s.size : Int) < 1) = true := decide_eq_true (by omega)
    have h1' : decide (s.size < 1) = true := decide_eq_true h1
    have h1f : (s.size : Int) < 1 := by omega
    have HH := Lib.hid (show decide (1 ≤ s.size) = false from decide_eq_false (by omega))
    clear h1
    go_enter Tryz.func108, Tryz.ntmps108
    go_wp2_with fail
    go_ret
    exact ⟨by rw [HRL.out, HH.out]; rfl, rfl⟩
  · have h1e : decide ((s.size : Int) < 1) = false := decide_eq_false (by omega)
    by_cases h2 : 40 < s.size
    · have h2e : decide ((40 : Int) < (s.size : Int)) = true := decide_eq_true (by omega)
      have HH := Lib.hid (show decide (s.size ≤ 40) = false from decide_eq_false (by omega))
      go_enter Tryz.func108, Tryz.ntmps108
      go_wp2_with fail
      go_ret
      exact ⟨by rw [HRL.out, HH.out]; simp, rfl⟩
    · have h2e : decide ((40 : Int) < (s.size : Int)) = false := decide_eq_false (by omega)
      have HH := Lib.hid (show decide (1 ≤ s.size) = true ∧ decide (s.size ≤ 40) = true from ⟨decide_eq_true (by omega), decide_eq_true (by omega)⟩)
      have hs2 : (s.size : Int) ≤ 40 := by omega
      clear h1 h2
      go_enter Tryz.func108, Tryz.ntmps108
      go_wp2_with fail
      clear h1e h2e
      go_loopw [3, 4, 5] (fun pv lv iv wr => ∃ i part long : Nat, pv = .int .i64 (part : Int) ∧ lv = .int .i64 (long : Int) ∧ iv = .int .i64 (i : Int) ∧ i ≤ s.size ∧ part ≤ i ∧ long ≤ 8 ∧ wr = w ∧ rLangFrom s i part long = rLangFrom s 0 0 0) (fun _ _ iv _ => s.size - (intOf iv).toNat)
      case atStart => exact ⟨0, 0, 0, rfl, rfl, rfl, Nat.zero_le _, Nat.le_refl _, by omega, rfl, rfl⟩
      case round =>
        obtain ⟨i, part, long, rfl, rfl, rfl, hi, hpi, hl8, rfl, htx⟩ := hrel
        by_cases hlt : i < s.size
        · have hlt' : (i : Int) < (s.size : Int) := by omega
          have hix := run_index_at hlt
          rw [rLangFrom_step s i part long hlt] at htx
          have hbl := byteAt_le s i
          generalize byteAt s i = c at *
          have HLE := Lib.hid (fun w => rletter_any c w)
          have HDI := Lib.hid (fun w => digit_any c w)
          generalize letterB c = lb at *
          generalize digitB c = db at *
          by_cases h45 : c = 45
          · have h45' : (c == 45) = true := by simp [h45]
            rw [if_pos h45] at htx
            have HTX := Lib.hid htx
            clear h45 htx
            by_cases hl0 : long = 0
            · subst hl0
              go_wp2_with fail
              go_ret
              exact ⟨by rw [HRL.out, ← HTX.out]; simp, rfl⟩
            · have hl0' : ((long : Int) == 0) = false := by simp [hl0]
              have HL0 := Lib.hid hl0
              clear hl0
              go_wp2_with fail
              go_roundw
              case rel => exact ⟨i + 1, part + 1, 0, by go_num, rfl, by go_num, by omega, by omega, by omega, by simp, by have h := HTX.out; simpa [HL0.out] using h⟩
              case measure => simp [intOf]; omega
          · have h45' : (c == 45) = false := by simp [h45]
            rw [if_neg h45] at htx
            have HTX := Lib.hid htx
            clear h45 htx
            cases lb with
            | true =>
              by_cases h8 : 8 ≤ long
              · have h8' : (8 : Int) < (long : Int) + 1 := by omega
                have H8 := Lib.hid (show decide (long < 8) = false from decide_eq_false (by omega))
                go_wp2_with fail
                refine (HLE.out _).mono ?_
                rintro e w1 ⟨rfl, rfl⟩
                go_wp2_with fail
                go_ret
                exact ⟨by rw [HRL.out, ← HTX.out, H8.out]; simp, rfl⟩
              · have h8' : (long : Int) + 1 ≤ 8 := by omega
                have H8 := Lib.hid (show decide (long < 8) = true from decide_eq_true (by omega))
                have h8e : ¬ (8 : Int) < (long : Int) + 1 := by omega
                go_wp2_with fail
                refine (HLE.out _).mono ?_
                rintro e w1 ⟨rfl, rfl⟩
                go_wp2_with fail
                go_roundw
                case rel => exact ⟨i + 1, part, long + 1, rfl, by go_num, by go_num, by omega, by omega, by omega, by simp, by have h := HTX.out; rw [H8.out] at h; simpa using h⟩
                case measure => simp [intOf]; omega
            | false =>
              by_cases hp0 : part = 0
              · subst hp0
                go_wp2_with fail
                refine (HLE.out _).mono ?_
                rintro e w1 ⟨rfl, rfl⟩
                go_wp2_with fail
                go_ret
                exact ⟨by rw [HRL.out, ← HTX.out]; simp, rfl⟩
              · have hp0' : ((part : Int) == 0) = false := by simp [hp0]
                have HP0 := Lib.hid hp0
                clear hp0
                cases db with
                | false =>
                  go_wp2_with fail
                  refine (HLE.out _).mono ?_
                  rintro e w1 ⟨rfl, rfl⟩
                  go_wp2_with fail
                  refine (HDI.out _).mono ?_
                  rintro e w1 ⟨rfl, rfl⟩
                  go_wp2_with fail
                  go_ret
                  exact ⟨by rw [HRL.out, ← HTX.out]; simp, rfl⟩
                | true =>
                  by_cases h8 : 8 ≤ long
                  · have h8' : (8 : Int) < (long : Int) + 1 := by omega
                    have H8 := Lib.hid (show decide (long < 8) = false from decide_eq_false (by omega))
                    go_wp2_with fail
                    refine (HLE.out _).mono ?_
                    rintro e w1 ⟨rfl, rfl⟩
                    go_wp2_with fail
                    refine (HDI.out _).mono ?_
                    rintro e w1 ⟨rfl, rfl⟩
                    go_wp2_with fail
                    go_ret
                    exact ⟨by rw [HRL.out, ← HTX.out, H8.out]; simp, rfl⟩
                  · have h8' : (long : Int) + 1 ≤ 8 := by omega
                    have H8 := Lib.hid (show decide (long < 8) = true from decide_eq_true (by omega))
                    have h8e : ¬ (8 : Int) < (long : Int) + 1 := by omega
                    go_wp2_with fail
                    refine (HLE.out _).mono ?_
                    rintro e w1 ⟨rfl, rfl⟩
                    go_wp2_with fail
                    refine (HDI.out _).mono ?_
                    rintro e w1 ⟨rfl, rfl⟩
                    go_wp2_with fail
                    go_roundw
                    case rel => exact ⟨i + 1, part, long + 1, rfl, by go_num, by go_num, by omega, by omega, by omega, by simp, by have h := HTX.out; rw [H8.out] at h; simpa [HP0.out] using h⟩
                    case measure => simp [intOf]; omega
        · have hge : (s.size : Int) ≤ (i : Int) := by omega
          rw [rLangFrom_end s i part long hlt] at htx
          have HTX := Lib.hid htx
          clear htx hlt
          by_cases hl0 : long = 0
          · subst hl0
            go_wp2_with fail
            go_ret
            exact ⟨by rw [HRL.out, ← HTX.out, HH.out.1, HH.out.2]; rfl, rfl⟩
          · have hl1 : (0 : Int) < (long : Int) := by omega
            have hl2 : decide (0 < long) = true := decide_eq_true (by omega)
            have HL2 := Lib.hid hl2
            clear hl0
            go_wp2_with fail
            go_ret
            exact ⟨by rw [HRL.out, ← HTX.out, HH.out.1, HH.out.2, HL2.out]; rfl, rfl⟩

end Go.Proofs.YtebddgdkndmpjaaGreatDoor
