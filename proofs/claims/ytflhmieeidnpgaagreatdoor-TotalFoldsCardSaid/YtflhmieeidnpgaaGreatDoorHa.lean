/- What a var stands for in a row: walked. -/
import Derived.Test.YtflhmieeidnpgaaGreatDoorGy
import Derived.Deep.CutBlock
import Derived.Deep.RegionLawGrows
import Derived.Deep.Cut
import Derived.Deep.CutRange
import Derived.WalkKit
import Derived.WalkLawsBesides
import Derived.WalkSpells
import Derived.Deep.QuietTactic
import Derived.BigRegion
import Derived.BigQuiet
import Derived.Lib.Hide
import Derived.Outline
import Derived.Deep.AppendLies
import Derived.Deep.RegionLaw
import Derived.Deep.RegionWith
import Derived.Deep.RegionHeld3
import Derived.Deep.LoopGhost
import Derived.Deep.DeepFit
import Derived.Laws.ResultCell
import Derived.Laws.RangeAny
import Derived.Deep.MidRow
import Derived.StillTailTactics
import Derived.OpenShut
namespace Go.Proofs.YtflhmieeidnpgaaGreatDoor
set_option linter.unusedVariables false
open Go.RowKit Go

set_option maxHeartbeats 1000000 in
theorem nan_any (s : ByteArray) (w : World) : Calls Tryz.prog 92 #[.string s] w fun e w' => e = .returned (.bool false) ∧ w = w' := by
  go_enter Tryz.func92, Tryz.ntmps92
  go_wp2_with fail
  go_ret
  exact ⟨rfl, rfl⟩
/-- The vars of a table. -/
def abc : List ByteArray := [⟨#[97]⟩, ⟨#[98]⟩, ⟨#[99]⟩]
/-- Where a var stands among a table's. -/
structure IsVar (v : ByteArray) (p : Nat) (fnd : Bool) : Prop where
  le : p ≤ 3
  less : ∀ k, k < 3 → Op.bytesLess (abc.getD k ByteArray.empty).toList v.toList = decide (k < p)
  here : p < 3 → ((abc.getD p ByteArray.empty).toList == v.toList) = fnd
  there : p = 3 → fnd = false
theorem var_a : IsVar ⟨#[97]⟩ 0 true := ⟨by decide, by decide +kernel, fun _ => by decide +kernel, fun h => absurd h (by decide)⟩
theorem var_b : IsVar ⟨#[98]⟩ 1 true := ⟨by decide, by decide +kernel, fun _ => by decide +kernel, fun h => absurd h (by decide)⟩
theorem var_c : IsVar ⟨#[99]⟩ 2 true := ⟨by decide, by decide +kernel, fun _ => by decide +kernel, fun h => absurd h (by decide)⟩
theorem var_d : IsVar ⟨#[100]⟩ 3 false := ⟨by decide, by decide +kernel, fun h => absurd h (by decide), fun _ => rfl⟩
theorem var_q : IsVar ⟨#[113]⟩ 3 false := ⟨by decide, by decide +kernel, fun h => absurd h (by decide), fun _ => rfl⟩

set_option maxRecDepth 100000 in
set_option maxHeartbeats 4000000 in
theorem search_any (g c B p : Nat) (v : ByteArray) (fnd : Bool) (w : World) (hv : IsVar v p fnd) (hs : w.ownsRow B 9 1 (.slice (some ⟨g, 0, none⟩) 3 c) 3 (abc.map .string)) :
    Calls Tryz.prog 74 #[.slice (some ⟨g, 0, none⟩) 3 c, .string v] w fun e w' => e = .returned (.tuple #[.int .i64 p, .bool fnd]) ∧ w = w' := by
  have HL := Lib.hid (fun a b w => less_any a b w)
  have HN := Lib.hid (fun s w => nan_any s w)
  have HC := Lib.hid (fun j hj => str_cell hs j hj)
  have HV := Lib.hid hv
  have hp := hv.le
  clear hs hv
  go_enter Tryz.func74, Tryz.ntmps74
  go_wp2_with fail
  go_loopw [7, 8] (fun iv jv wr => ∃ i j : Nat, iv = .int .i64 (i : Int) ∧ jv = .int .i64 (j : Int) ∧ i ≤ p ∧ p ≤ j ∧ j ≤ 3 ∧ w = wr) (fun iv jv _ => (intOf jv).toNat - (intOf iv).toNat)
  case atStart => exact ⟨0, 3, rfl, rfl, by omega, by omega, by omega, rfl⟩
  case round =>
    obtain ⟨i, j, rfl, rfl, hi, hj, hj3, rfl⟩ := hrel
    by_cases hlt : i < j
    · have hlt' : decide (i < j) = true := by simpa using hlt
      have c0 := HC.out ((i + j) / 2) (by omega)
      have l0 := HV.out.less ((i + j) / 2) (by omega)
      generalize abc.getD ((i + j) / 2) ByteArray.empty = x at *
      by_cases hm : (i + j) / 2 < p
      · rw [decide_eq_true hm] at l0
        go_wp2_with fail
        refine (HL.out _ _ _).mono ?_
        rintro e w1 ⟨rfl, rfl⟩
        go_wp2_with fail
        go_roundw
        case rel => exact ⟨(i + j) / 2 + 1, j, by rw [show (((i + j) / 2 + 1 : Nat) : Int) = ((i : Int) + j) / 2 + 1 by omega], rfl, by omega, by omega, by omega, trivial⟩
        case measure => simp [intOf]; omega
      · rw [decide_eq_false hm] at l0
        go_wp2_with fail
        refine (HL.out _ _ _).mono ?_
        rintro e w1 ⟨rfl, rfl⟩
        go_wp2_with fail
        go_roundw
        case rel => exact ⟨i, (i + j) / 2, rfl, by rw [show (((i + j) / 2 : Nat) : Int) = ((i : Int) + j) / 2 by omega], by omega, by omega, by omega, trivial⟩
        case measure => simp [intOf]; omega
    · have hij : i = p := by omega
      have hji : j = i := by omega
      subst hji
      subst hij
      have hlt' : decide (j < j) = false := by simp
      by_cases h3 : j < 3
      · have h3' : (j : Int) < 3 := by omega
        have c0 := HC.out j h3
        have l0 := HV.out.here h3
        generalize abc.getD j ByteArray.empty = x at *
        cases fnd with
        | true =>
          go_wp2_with fail
          go_ret2
          exact ⟨rfl, rfl⟩
        | false =>
          go_wp2_with fail
          refine (HN.out _ _).mono ?_
          rintro e w1 ⟨rfl, rfl⟩
          go_wp2_with fail
          go_ret2
          exact ⟨rfl, rfl⟩
      · have h3' : ¬ (j : Int) < 3 := by omega
        have l0 := HV.out.there (by omega)
        subst l0
        go_wp2_with fail
        go_ret2
        exact ⟨rfl, rfl⟩

/-- The number of a var's place; below 0: none. -/
def placeN (p : Nat) (fnd : Bool) : Int := if fnd = true then (p : Int) else -1
set_option maxRecDepth 100000 in
set_option maxHeartbeats 4000000 in
theorem place_any (vg vc B p n c : Nat) (A : Option Addr) (v : ByteArray) (fnd : Bool) (w : World) (hv : IsVar v p fnd) (hs : w.ownsRow B 9 1 (.slice (some ⟨vg, 0, none⟩) 3 vc) 3 (abc.map .string)) :
    Calls Tryz.prog 37 #[.agg #[.slice (some ⟨vg, 0, none⟩) 3 vc, .slice A n c], .string v] w fun e w' => e = .returned (.int .i64 (placeN p fnd)) ∧ Fr (fun _ => False) w w' := by
  have HS := Lib.hid (fun w hs => search_any vg vc B p v fnd w hv hs)
  have HV := Lib.hid hs
  unfold placeN
  clear hv hs
  cases fnd with
  | true =>
    go_enter Tryz.func37, Tryz.ntmps37
    go_wp2_with fail
    refine (HS.out _ (HV.out.alloc _)).mono ?_
    rintro e w1 ⟨rfl, rfl⟩
    go_wp2_with fail
    go_ret
    exact ⟨rfl, (Fr.refl _ _).alloc _⟩
  | false =>
    go_enter Tryz.func37, Tryz.ntmps37
    go_wp2_with fail
    refine (HS.out _ (HV.out.alloc _)).mono ?_
    rintro e w1 ⟨rfl, rfl⟩
    go_wp2_with fail
    go_ret
    exact ⟨rfl, (Fr.refl _ _).alloc _⟩

/-- What stands at a place of a row. -/
def valN (p : Nat) (fnd : Bool) (xs : List Int) : Int := if fnd = true then xs.getD p 0 else -1
set_option maxRecDepth 100000 in
set_option maxHeartbeats 4000000 in
theorem value_any (vg vc B B' p n c : Nat) (A : Option Addr) (v : ByteArray) (fnd : Bool) (vr : Value) (xs : List Int) (w : World) (hv : IsVar v p fnd) (hx : xs.length = 3) (hs : w.ownsRow B 9 1 (.slice (some ⟨vg, 0, none⟩) 3 vc) 3 (abc.map .string)) (hr : IntRow w B' vr xs) :
    Calls Tryz.prog 11 #[.agg #[.slice (some ⟨vg, 0, none⟩) 3 vc, .slice A n c], vr, .string v] w fun e w' => e = .returned (.int .i64 (valN p fnd xs)) ∧ Fr (fun _ => False) w w' := by
  have HP := Lib.hid (fun w hs => place_any vg vc B p n c A v fnd w hv hs)
  have HV := Lib.hid hs
  have HR := Lib.hid hr
  obtain ⟨rg, rc, hvr⟩ := row_pos hr (by omega)
  subst hvr
  rw [hx] at HR
  rw [hx]
  have hp : fnd = true → p < 3 := fun h => by
    rcases Nat.lt_or_ge p 3 with h1 | h1
    · exact h1
    · have := hv.there (by have := hv.le; omega)
      rw [this] at h
      cases h
  unfold placeN at HP
  unfold valN
  clear hv hs hr
  cases fnd with
  | true =>
    have hp3 := hp rfl
    have hp3' : (p : Int) < 3 := by omega
    simp only [if_true] at HP ⊢
    go_enter Tryz.func11, Tryz.ntmps11
    go_wp2_with fail
    refine (HP.out _ (HV.out.alloc _)).mono ?_
    rintro e w1 ⟨rfl, hf⟩
    have c0 := int_cell (HR.out.fr ((((Fr.refl _ _).alloc _).trans' hf : Fr (fun _ => False) w w1)) (fun _ _ h => h)) p (by omega)
    have HF := Lib.hid (((Fr.refl _ _).alloc _).trans' hf : Fr (fun _ => False) w w1)
    obtain ⟨y, hy⟩ : ∃ y, xs.getD p 0 = y := ⟨_, rfl⟩
    rw [hy] at c0
    have HY := Lib.hid hy
    clear hf hp hy
    go_wp2_with fail
    go_ret
    exact ⟨by rw [HY.out]; rfl, HF.out⟩
  | false =>
    simp only [Bool.false_eq_true, if_false] at HP ⊢
    go_enter Tryz.func11, Tryz.ntmps11
    go_wp2_with fail
    refine (HP.out _ (HV.out.alloc _)).mono ?_
    rintro e w1 ⟨rfl, hf⟩
    have HF := Lib.hid (((Fr.refl _ _).alloc _).trans' hf : Fr (fun _ => False) w w1)
    clear hf hp
    go_wp2_with fail
    go_ret
    exact ⟨rfl, HF.out⟩

end Go.Proofs.YtflhmieeidnpgaaGreatDoor
