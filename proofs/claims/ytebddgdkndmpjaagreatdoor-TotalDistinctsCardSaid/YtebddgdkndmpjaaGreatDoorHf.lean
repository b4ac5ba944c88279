/- Value, Good of a table: walked. -/
import Derived.Test.YtebddgdkndmpjaaGreatDoorGv
import Derived.Deep.CutBlock
import Derived.Deep.RegionLawGrows
import Derived.Deep.Cut
import Derived.Deep.CutRange
import Derived.WalkKit
import Derived.WalkLawsBesides
import Derived.WalkSpells
import Derived.Deep.QuietTactic
import Derived.BigRegion
import Derived.BigQuiet
import Derived.Lib.Hide
import Derived.Outline
import Derived.Deep.AppendLies
import Derived.Deep.RegionLaw
import Derived.Deep.RegionWith
import Derived.Deep.RegionHeld3
import Derived.Deep.LoopGhost
import Derived.Deep.DeepFit
import Derived.Laws.ResultCell
import Derived.Laws.RangeAny
import Derived.Deep.MidRow
import Derived.StillTailTactics
import Derived.OpenShut
namespace Go.Proofs.YtebddgdkndmpjaaGreatDoor
set_option linter.unusedVariables false
open Go.RowKit Go

set_option maxHeartbeats 1000000 in
theorem nan_any (s : ByteArray) (w : World) : Calls Tryz.prog 172 #[.string s] w fun e w' => e = .returned (.bool false) ∧ w = w' := by
  go_enter Tryz.func172, Tryz.ntmps172
  go_wp2_with fail
  go_ret
  exact ⟨rfl, rfl⟩
/-- Where a var stands among some that rise. -/
structure IsVar (ss : List ByteArray) (v : ByteArray) (p : Nat) (fnd : Bool) : Prop where
  le : p ≤ ss.length
  less : ∀ k, k < ss.length → Op.bytesLess (ss.getD k ByteArray.empty).toList v.toList = decide (k < p)
  here : p < ss.length → ((ss.getD p ByteArray.empty).toList == v.toList) = fnd
  there : p = ss.length → fnd = false
theorem str_at {w : World} {B n c : Nat} {V : Option Addr} {ss : List ByteArray} (h : w.ownsRow B 9 1 (.slice V n c) n (ss.map .string)) (j : Nat) (hj : j < n) : ∃ g, V = some ⟨g, 0, none⟩ ∧ w.cell? ⟨g, j, none⟩ = some (.string (ss.getD j ByteArray.empty)) := by
  obtain ⟨g, rfl, _, _, _⟩ := row_form h (by omega)
  exact ⟨g, rfl, str_cell h j hj⟩
theorem row_len {w : World} {B n : Nat} {v : Value} {ss : List ByteArray} (h : w.ownsRow B 9 1 v n (ss.map .string)) : ss.length = n := by
  have := h.1
  simpa using this

set_option maxRecDepth 100000 in
set_option maxHeartbeats 4000000 in
theorem search_any (n c B p : Nat) (V : Option Addr) (ss : List ByteArray) (v : ByteArray) (fnd : Bool) (w : World) (hn : n ≤ 4096) (hv : IsVar ss v p fnd) (hs : w.ownsRow B 9 1 (.slice V n c) n (ss.map .string)) :
    Calls Tryz.prog 132 #[.slice V n c, .string v] w fun e w' => e = .returned (.tuple #[.int .i64 p, .bool fnd]) ∧ w = w' := by
  have HL := Lib.hid (fun a b w => less_any a b w)
  have HN := Lib.hid (fun s w => nan_any s w)
  have HC := Lib.hid (fun j hj => str_at hs j hj)
  have hsl := row_len hs
  have HV := Lib.hid hv
  have hp := hv.le
  rw [hsl] at hp
  have HSL := Lib.hid hsl
  clear hs hv hsl
  go_enter Tryz.func132, Tryz.ntmps132
  go_wp2_with fail
  go_loopw [7, 8] (fun iv jv wr => ∃ i j : Nat, iv = .int .i64 (i : Int) ∧ jv = .int .i64 (j : Int) ∧ i ≤ p ∧ p ≤ j ∧ j ≤ n ∧ w = wr) (fun iv jv _ => (intOf jv).toNat - (intOf iv).toNat)
  case atStart => exact ⟨0, n, rfl, rfl, by omega, by omega, by omega, rfl⟩
  case round =>
    obtain ⟨i, j, rfl, rfl, hi, hj, hj3, rfl⟩ := hrel
    by_cases hlt : i < j
    · have hlt' : decide (i < j) = true := by simpa using hlt
      obtain ⟨g, rfl, c0⟩ := HC.out ((i + j) / 2) (by omega)
      have l0 := HV.out.less ((i + j) / 2) (by rw [HSL.out]; omega)
      generalize ss.getD ((i + j) / 2) ByteArray.empty = x at *
      by_cases hm : (i + j) / 2 < p
      · rw [decide_eq_true hm] at l0
        go_wp2_with fail
        refine (HL.out _ _ _).mono ?_
        rintro e w1 ⟨rfl, rfl⟩
        go_wp2_with fail
        go_roundw
        case rel => exact ⟨(i + j) / 2 + 1, j, by rw [show (((i + j) / 2 + 1 : Nat) : Int) = ((i : Int) + j) / 2 + 1 by omega], rfl, by omega, by omega, by omega, trivial⟩
        case measure => simp [intOf]; omega
      · rw [decide_eq_false hm] at l0
        go_wp2_with fail
        refine (HL.out _ _ _).mono ?_
        rintro e w1 ⟨rfl, rfl⟩
        go_wp2_with fail
        go_roundw
        case rel => exact ⟨i, (i + j) / 2, rfl, by rw [show (((i + j) / 2 : Nat) : Int) = ((i : Int) + j) / 2 by omega], by omega, by omega, by omega, trivial⟩
        case measure => simp [intOf]; omega
    · have hij : i = p := by omega
      have hji : j = i := by omega
      subst hji
      subst hij
      have hlt' : decide (j < j) = false := by simp
      by_cases h3 : j < n
      · have h3' : decide (j < n) = true := by simp [h3]
        obtain ⟨g, rfl, c0⟩ := HC.out j h3
        have l0 := HV.out.here (by rw [HSL.out]; exact h3)
        generalize ss.getD j ByteArray.empty = x at *
        cases fnd with
        | true =>
          go_wp2_with fail
          go_ret2
          exact ⟨rfl, rfl⟩
        | false =>
          go_wp2_with fail
          refine (HN.out _ _).mono ?_
          rintro e w1 ⟨rfl, rfl⟩
          go_wp2_with fail
          go_ret2
          exact ⟨rfl, rfl⟩
      · have h3' : decide (j < n) = false := by simp; omega
        have l0 := HV.out.there (by rw [HSL.out]; omega)
        subst l0
        go_wp2_with fail
        go_ret2
        exact ⟨rfl, rfl⟩

/-- The number of a var's place; below 0: none. -/
def placeN (p : Nat) (fnd : Bool) : Int := if fnd = true then (p : Int) else -1
set_option maxRecDepth 100000 in
set_option maxHeartbeats 4000000 in
theorem place_any (m vc B p : Nat) (V : Option Addr) (vr : Value) (ss : List ByteArray) (v : ByteArray) (fnd : Bool) (w : World) (hm : m ≤ 4096) (hv : IsVar ss v p fnd) (hs : w.ownsRow B 9 1 (.slice V m vc) m (ss.map .string)) :
    Calls Tryz.prog 77 #[.agg #[.slice V m vc, vr], .string v] w fun e w' => e = .returned (.int .i64 (placeN p fnd)) ∧ Fr (fun _ => False) w w' := by
  have HS := Lib.hid (fun w hs => search_any m vc B p V ss v fnd w hm hv hs)
  have HV := Lib.hid hs
  unfold placeN
  clear hv hs
  cases fnd with
  | true =>
    go_enter Tryz.func77, Tryz.ntmps77
    go_wp2_with fail
    refine (HS.out _ (HV.out.alloc _)).mono ?_
    rintro e w1 ⟨rfl, rfl⟩
    go_wp2_with fail
    go_ret
    exact ⟨rfl, (Fr.refl _ _).alloc _⟩
  | false =>
    go_enter Tryz.func77, Tryz.ntmps77
    go_wp2_with fail
    refine (HS.out _ (HV.out.alloc _)).mono ?_
    rintro e w1 ⟨rfl, rfl⟩
    go_wp2_with fail
    go_ret
    exact ⟨rfl, (Fr.refl _ _).alloc _⟩

/-- What stands at a place of a row. -/
def valN (p : Nat) (fnd : Bool) (xs : List Int) : Int := if fnd = true then xs.getD p 0 else -1
set_option maxRecDepth 100000 in
set_option maxHeartbeats 4000000 in
theorem value_any (m vc B B' p : Nat) (V : Option Addr) (vt : Value) (ss : List ByteArray) (v : ByteArray) (fnd : Bool) (vr : Value) (xs : List Int) (w : World) (hm : m ≤ 4096) (hv : IsVar ss v p fnd) (hx : xs.length = m) (hs : w.ownsRow B 9 1 (.slice V m vc) m (ss.map .string)) (hr : IntRow w B' vr xs) :
    Calls Tryz.prog 27 #[.agg #[.slice V m vc, vt], vr, .string v] w fun e w' => e = .returned (.int .i64 (valN p fnd xs)) ∧ Fr (fun _ => False) w w' := by
  have HP := Lib.hid (fun w hs => place_any m vc B p V vt ss v fnd w hm hv hs)
  have HV := Lib.hid hs
  have HR := Lib.hid hr
  have hsl := row_len hs
  obtain ⟨R, rc, hvr⟩ := row_shape hr
  subst hvr
  rw [hx] at HR
  rw [hx]
  have hp : fnd = true → p < m := fun h => by
    rcases Nat.lt_or_ge p m with h1 | h1
    · exact h1
    · have := hv.there (by have := hv.le; omega)
      rw [this] at h
      cases h
  unfold placeN at HP
  unfold valN
  clear hv hs hr
  cases fnd with
  | true =>
    have hp3 := hp rfl
    have hp3' : (p : Int) < (m : Int) := by omega
    have hown := HR.out
    unfold IntRow at hown
    rw [hx] at hown
    obtain ⟨rg, rfl, _, _, _⟩ := row_form hown (by omega)
    clear hown
    simp only [if_true] at HP ⊢
    go_enter Tryz.func27, Tryz.ntmps27
    go_wp2_with fail
    refine (HP.out _ (HV.out.alloc _)).mono ?_
    rintro e w1 ⟨rfl, hf⟩
    have c0 := int_cell (HR.out.fr ((((Fr.refl _ _).alloc _).trans' hf : Fr (fun _ => False) w w1)) (fun _ _ h => h)) p (by omega)
    have HF := Lib.hid (((Fr.refl _ _).alloc _).trans' hf : Fr (fun _ => False) w w1)
    obtain ⟨y, hy⟩ : ∃ y, xs.getD p 0 = y := ⟨_, rfl⟩
    rw [hy] at c0
    have HY := Lib.hid hy
    clear hf hp hy
    go_wp2_with fail
    go_ret
    exact ⟨by rw [HY.out]; rfl, HF.out⟩
  | false =>
    simp only [Bool.false_eq_true, if_false] at HP ⊢
    go_enter Tryz.func27, Tryz.ntmps27
    go_wp2_with fail
    refine (HP.out _ (HV.out.alloc _)).mono ?_
    rintro e w1 ⟨rfl, hf⟩
    have HF := Lib.hid (((Fr.refl _ _).alloc _).trans' hf : Fr (fun _ => False) w w1)
    clear hf hp
    go_wp2_with fail
    go_ret
    exact ⟨rfl, HF.out⟩

set_option maxHeartbeats 1000000 in
theorem low47 (x : Int) (w : World) (hx : -1 ≤ x) : Calls Tryz.prog 63 #[.int .i64 x] w fun e w' => e = .returned (.bool false) ∧ w = w' := by
  have hx' : ¬ x < -1 := by omega
  go_enter Tryz.func63, Tryz.ntmps63
  go_wp2_with fail
  go_ret
  exact ⟨rfl, rfl⟩

set_option maxRecDepth 100000 in
set_option maxHeartbeats 4000000 in
theorem idx77 (m c B : Nat) (V : Option Addr) (xs : List Int) (w : World) (hm9 : m ≤ 4096) (hl : xs.length = m) (hm : ∀ k, k < m → -1 ≤ xs.getD k 0) (hr : IntRow w B (.slice V m c) xs) :
    Calls Tryz.prog 126 #[.slice V m c, .func (.func 63) #[] #[]] w fun e w' => e = .returned (.int .i64 (-1)) ∧ w = w' := by
  have HL := Lib.hid (fun x w hx => low47 x w hx)
  have HR := Lib.hid hr
  have HM := Lib.hid hm
  have HN := Lib.hid hl
  clear hr hm hl
  go_enter Tryz.func126, Tryz.ntmps126
  go_wp2_with fail
  go_loopw [8] (fun iv wr => ∃ i : Nat, iv = .int .i64 (i : Int) ∧ i ≤ m ∧ w = wr) (fun iv _ => m - (intOf iv).toNat)
  case atStart => exact ⟨0, rfl, Nat.zero_le _, rfl⟩
  case round =>
    obtain ⟨i, rfl, hi, rfl⟩ := hrel
    by_cases hlt : i < m
    · have hlt' : (i : Int) < (m : Int) := by omega
      have hown := HR.out
      unfold IntRow at hown
      rw [HN.out] at hown
      obtain ⟨g, rfl, _, _, _⟩ := row_form hown (by omega)
      have c0 := int_cell HR.out i (by rw [HN.out]; exact hlt)
      have hx := HM.out i hlt
      clear hown
      generalize xs.getD i 0 = x at *
      go_wp2_with fail
      refine (HL.out _ _ hx).mono ?_
      rintro e w1 ⟨rfl, rfl⟩
      go_wp2_with fail
      go_roundw
      case rel => exact ⟨i + 1, by go_num, by omega, trivial⟩
      case measure => simp [intOf]; omega
    · have hlt' : ¬ (i : Int) < (m : Int) := by omega
      go_wp2_with fail
      go_ret
      exact ⟨rfl, rfl⟩

set_option maxRecDepth 100000 in
set_option maxHeartbeats 4000000 in
theorem has46 (m c B : Nat) (V : Option Addr) (xs : List Int) (w : World) (hm9 : m ≤ 4096) (hl : xs.length = m) (hm : ∀ k, k < m → -1 ≤ xs.getD k 0) (hr : IntRow w B (.slice V m c) xs) :
    Calls Tryz.prog 62 #[.slice V m c, .func (.func 63) #[] #[]] w fun e w' => e = .returned (.bool false) ∧ w = w' := by
  have HI := Lib.hid (idx77 m c B V xs w hm9 hl hm hr)
  clear hm hr hl
  go_enter Tryz.func62, Tryz.ntmps62
  go_wp2_with fail
  refine HI.out.mono ?_
  rintro e w1 ⟨rfl, rfl⟩
  go_wp2_with fail
  go_ret
  exact ⟨rfl, rfl⟩

set_option maxRecDepth 100000 in
set_option maxHeartbeats 4000000 in
theorem bad45 (tb vc m c B : Nat) (V W : Option Addr) (xs : List Int) (w : World) (hm9 : m ≤ 4096) (hl : xs.length = m) (hm : ∀ k, k < m → -1 ≤ xs.getD k 0) (hr : IntRow w B (.slice V m c) xs)
    (t0 : w.cell? ⟨tb, 0, none⟩ = some (.slice W m vc)) :
    Calls Tryz.prog 61 #[.slice V m c, .pointer (some ⟨tb, 0, none⟩)] w fun e w' => e = .returned (.bool false) ∧ w = w' := by
  have HI := Lib.hid (has46 m c B V xs w hm9 hl hm hr)
  clear hm hr hl
  go_enter Tryz.func61, Tryz.ntmps61
  go_wp2_with fail
  refine HI.out.mono ?_
  rintro e w1 ⟨rfl, rfl⟩
  go_wp2_with fail
  go_ret
  exact ⟨rfl, rfl⟩

set_option maxRecDepth 100000 in
set_option maxHeartbeats 4000000 in
theorem idx76 (tb vc m B : Nat) (W : Option Addr) (vr : Value) (vals : List Value) (g : List (List Int)) (w : World) (hm9 : m ≤ 4096) (hn : g.length ≤ 4096) (hl : ∀ i, i < g.length → (g.getD i []).length = m) (hm : ∀ i, i < g.length → ∀ k, k < m → -1 ≤ (g.getD i []).getD k 0) (hr : RowsAt w B vr vals g)
    (t0 : w.cell? ⟨tb, 0, none⟩ = some (.slice W m vc)) :
    Calls Tryz.prog 125 #[vr, .func (.func 61) #[] #[.pointer (some ⟨tb, 0, none⟩)]] w fun e w' => e = .returned (.int .i64 (-1)) ∧ w = w' := by
  obtain ⟨A, c, hv⟩ := row_shape hr.own
  subst hv
  have HL := Lib.hid (fun c B V xs w hl hm hr t0 => bad45 tb vc m c B V W xs w hm9 hl hm hr t0)
  have HR := Lib.hid hr
  have HM := Lib.hid hm
  have HN := Lib.hid hl
  have HT := Lib.hid t0
  clear hr hm hl t0
  generalize hgl : g.length = n at *
  have HGL := Lib.hid hgl
  clear hgl
  go_enter Tryz.func125, Tryz.ntmps125
  go_wp2_with fail
  go_loopw [8] (fun iv wr => ∃ i : Nat, iv = .int .i64 (i : Int) ∧ i ≤ n ∧ w = wr) (fun iv _ => n - (intOf iv).toNat)
  case atStart => exact ⟨0, rfl, Nat.zero_le _, rfl⟩
  case round =>
    obtain ⟨i, rfl, hi, rfl⟩ := hrel
    by_cases hlt : i < n
    · have hlt' : decide (i < n) = true := by simpa using hlt
      have hown := HR.out.own
      rw [HGL.out] at hown
      obtain ⟨ga, rfl, _, _, _⟩ := row_form hown (by omega)
      have c0 : w.cell? ⟨ga, i, none⟩ = some (vals.getD i undef) := by
        rw [World.ownsRow.cellAt hown i (by omega), List.getD_eq_getElem?_getD, List.getElem?_eq_getElem (by have := HR.out.len; rw [HGL.out] at this; omega)]; rfl
      have hek := HR.out.each i (by rw [HGL.out]; exact hlt)
      have h3 := HN.out i hlt
      obtain ⟨RA, rc, hvk⟩ := row_shape hek
      rw [hvk] at c0 hek
      rw [h3] at c0 hek
      have HC := Lib.hid (HL.out rc _ RA _ w h3 (HM.out i hlt) hek HT.out)
      clear hown hek h3
      go_wp2_with fail
      refine HC.out.mono ?_
      rintro e w1 ⟨rfl, rfl⟩
      go_wp2_with fail
      go_roundw
      case rel => exact ⟨i + 1, by go_num, by omega, trivial⟩
      case measure => simp [intOf]; omega
    · have hlt' : decide (i < n) = false := by simpa using hlt
      have hin : i = n := by omega
      subst hin
      go_wp2_with fail
      go_ret
      exact ⟨rfl, rfl⟩

set_option maxRecDepth 100000 in
set_option maxHeartbeats 4000000 in
theorem has44 (tb vc m B : Nat) (W : Option Addr) (vr : Value) (vals : List Value) (g : List (List Int)) (w : World) (hm9 : m ≤ 4096) (hn : g.length ≤ 4096) (hl : ∀ i, i < g.length → (g.getD i []).length = m) (hm : ∀ i, i < g.length → ∀ k, k < m → -1 ≤ (g.getD i []).getD k 0) (hr : RowsAt w B vr vals g)
    (t0 : w.cell? ⟨tb, 0, none⟩ = some (.slice W m vc)) :
    Calls Tryz.prog 60 #[vr, .func (.func 61) #[] #[.pointer (some ⟨tb, 0, none⟩)]] w fun e w' => e = .returned (.bool false) ∧ w = w' := by
  have HI := Lib.hid (idx76 tb vc m B W vr vals g w hm9 hn hl hm hr t0)
  clear hm hr hl t0
  go_enter Tryz.func60, Tryz.ntmps60
  go_wp2_with fail
  refine HI.out.mono ?_
  rintro e w1 ⟨rfl, rfl⟩
  go_wp2_with fail
  go_ret
  exact ⟨rfl, rfl⟩

set_option maxRecDepth 100000 in
set_option maxHeartbeats 4000000 in
theorem tabGood_any (vc m B B2 : Nat) (V : Option Addr) (ss : List ByteArray) (vr : Value) (vals : List Value) (g : List (List Int)) (w : World) (hm9 : m ≤ 4096) (hn : g.length ≤ 4096) (hl : ∀ i, i < g.length → (g.getD i []).length = m) (hm : ∀ i, i < g.length → ∀ k, k < m → -1 ≤ (g.getD i []).getD k 0) (hr : RowsAt w B vr vals g)
    (hs : ∀ k, k + 1 < m → Op.bytesLess (ss.getD k ByteArray.empty).toList (ss.getD (k + 1) ByteArray.empty).toList = true)
    (hv : w.ownsRow B2 9 1 (.slice V m vc) m (ss.map .string)) :
    Calls Tryz.prog 18 #[.agg #[.slice V m vc, vr]] w (IsB true w) := by
  obtain ⟨A, c, hvr⟩ := row_shape hr.own
  subst hvr
  have HH := Lib.hid (fun wy (hf : Fr (fun _ => False) w wy) t0 => has44 w.heap.size vc m B V _ vals g wy hm9 hn hl hm (hr.frF hf) t0)
  have HV := Lib.hid hv
  have HS := Lib.hid hs
  have hb := Blk.new w 63 #[.slice V m vc, .slice A g.length c]
  have HB := Lib.hid hb
  clear hr hm hl hv hb hs
  go_enter Tryz.func18, Tryz.ntmps18
  go_wp2_with fail
  go_loopw [7] (fun iv wr => ∃ i : Nat, iv = .int .i64 (i : Int) ∧ i ≤ m ∧ Fr (fun _ => False) w wr ∧ Blk wr w.heap.size 63 #[.slice V m vc, .slice A g.length c]) (fun iv _ => m - (intOf iv).toNat)
  case atStart => exact ⟨0, rfl, Nat.zero_le _, (Fr.refl _ _).alloc _, HB.out⟩
  case round =>
    obtain ⟨i, rfl, hi, hf, hbl⟩ := hrel
    have t0 : wr.cell? ⟨w.heap.size, 0, none⟩ = some (.slice V m vc) := hbl.cell 0
    have t1 : wr.cell? ⟨w.heap.size, 1, none⟩ = some (.slice A g.length c) := hbl.cell 1
    have HF := Lib.hid hf
    have HBL := Lib.hid hbl
    have hvv := ownsRow_fr HV.out hf (fun _ _ h => h)
    clear hf hbl
    by_cases hlt : i < m
    · have hlt' : (i : Int) < (m : Int) := by omega
      by_cases h0 : i = 0
      · subst h0
        clear hvv
        go_wp2_with fail
        go_quiet (fail)
        go_wp2_with fail
        go_roundw
        case rel => exact ⟨1, rfl, by omega, HF.out.drewN _, HBL.out.drewN _⟩
        case measure => simp [intOf]; omega
      · obtain ⟨k, rfl⟩ : ∃ k, i = k + 1 := ⟨i - 1, by omega⟩
        obtain ⟨vg, rfl, _, _, _⟩ := row_form hvv (by omega)
        have c0 := str_cell hvv k (by omega)
        have c1 := str_cell hvv (k + 1) (by omega)
        have hls := HS.out k (by omega)
        generalize ss.getD k ByteArray.empty = x at *
        generalize ss.getD (k + 1) ByteArray.empty = y at *
        have hgt : decide ((k : Int) + 1 > 0) = true := decide_eq_true (by omega)
        clear hvv
        go_wp2_with fail
        go_quiet (fail)
        go_wp2_with fail
        go_roundw
        case rel => exact ⟨k + 2, by go_num, by omega, HF.out.drewN _, HBL.out.drewN _⟩
        case measure => simp [intOf]; omega
    · have hlt' : ¬ (i : Int) < (m : Int) := by omega
      go_wp2_with fail
      refine (HH.out _ HF.out t0).mono ?_
      rintro e w1 ⟨rfl, rfl⟩
      go_wp2_with fail
      go_ret
      exact ⟨rfl, HF.out⟩

end Go.Proofs.YtebddgdkndmpjaaGreatDoor
