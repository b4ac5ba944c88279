/- A row's name: walked. -/
import Derived.Test.YtebddgdkndmpjaaGreatDoorGv
import Derived.Test.YtebddgdkndmpjaaGreatDoorSq
import Derived.Lib.ItoaLen
import Derived.Deep.CutBlock
import Derived.Deep.RegionLawGrows
import Derived.Deep.Cut
import Derived.Deep.CutRange
import Derived.WalkKit
import Derived.WalkLawsBesides
import Derived.WalkSpells
import Derived.Deep.QuietTactic
import Derived.BigRegion
import Derived.BigQuiet
import Derived.Lib.Hide
import Derived.Outline
import Derived.Deep.AppendLies
import Derived.Deep.RegionLaw
import Derived.Deep.RegionWith
import Derived.Deep.RegionHeld3
import Derived.Deep.LoopGhost
import Derived.Deep.DeepFit
import Derived.Laws.ResultCell
import Derived.Laws.RangeAny
import Derived.Deep.MidRow
import Derived.StillTailTactics
import Derived.OpenShut
namespace Go.Proofs.YtebddgdkndmpjaaGreatDoor
set_option linter.unusedVariables false
open Go.RowKit Go

/-- What is read of the library's variables. -/
def Tb (w : World) : Prop := Lib.TabIs Tryz.prog w "internal/strconv.uint64pow10" .u64 Lib.pow10Tab
theorem var_frS {S : Nat → Prop} {w w' : World} {n : String} {cs : Array Value} (hf : Fr S w w') (hs : ∀ g, Tryz.prog.globalNamed n = some g → ¬ S g) (h : w.var? Tryz.prog n = some cs) : w'.var? Tryz.prog n = some cs := by
  unfold World.var? at h ⊢
  cases hg : Tryz.prog.globalNamed n with
  | none =>
    rw [hg] at h
    cases h
  | some g =>
    rw [hg] at h
    simp only [Option.bind_some] at h ⊢
    have hl : g < w.heap.size := by
      rcases Nat.lt_or_ge g w.heap.size with h1 | h1
      · exact h1
      · rw [Array.getElem?_eq_none h1] at h
        cases h
    rw [hf.block g hl (hs g hg)]
    exact h
theorem Tb.frF {w w' : World} (h : Tb w) (hf : Fr (fun _ => False) w w') : Tb w' := var_frS hf (fun _ _ h => h) h
theorem Tb.frN {w w' : World} {n : Nat} (h : Tb w) (hn : 4 ≤ n) (hf : Fr (fun j => n ≤ j) w w') : Tb w' := var_frS hf (fun g hg h => by
  have e : Tryz.prog.globalNamed "internal/strconv.uint64pow10" = some 3 := by kernel_rfl
  rw [e] at hg
  injection hg with hg
  omega) h

theorem fr_grow (w : World) (k : Nat) (os : Array Obj) : Fr (fun _ => False) w (Go.Sort.grow (w.drewN k) os) :=
  ⟨rfl, rfl, rfl, by show w.heap.size ≤ (w.heap ++ os).size; rw [Array.size_append]; omega, fun j hj _ => by show (w.heap ++ os)[j]? = w.heap[j]?; rw [Array.getElem?_append_left hj]⟩

set_option maxRecDepth 100000 in
set_option maxHeartbeats 4000000 in
theorem itoa_any (n : Int) (h1 : -9223372036854775808 ≤ n) (h2 : n ≤ 9223372036854775807) (w : World) (hg : Tb w) : Calls Tryz.prog 128 #[.int .i64 n] w fun e w' => e = .returned (.string ⟨(Lib.itoa n).toArray⟩) ∧ Fr (fun _ => False) w w' := by
  refine (Tryz.strconv_Itoa n h1 h2 w hg).mono ?_
  rintro e w1 ⟨rfl, k, os, rfl⟩
  exact ⟨rfl, fr_grow w k os⟩

/-- A row's name, up to a place. -/
def nameTo (xs : List Int) : Nat → ByteArray
  | 0 => ⟨#[]⟩
  | k + 1 => nameTo xs k ++ (⟨(Lib.itoa (xs.getD k 0)).toArray⟩ ++ ⟨#[32]⟩)
def nameB (xs : List Int) : ByteArray := nameTo xs xs.length

theorem nameTo_size (xs : List Int) (h : ∀ k, k < xs.length → -1 ≤ xs.getD k 0 ∧ xs.getD k 0 ≤ 1000000) : ∀ k, k ≤ xs.length → (nameTo xs k).size ≤ 22 * k
  | 0, _ => Nat.le_refl _
  | k + 1, hk => by
    have ih := nameTo_size xs h k (by omega)
    have h1 := Lib.itoa_length_le (xs.getD k 0) (by have := h k (by omega); omega) (by have := h k (by omega); omega)
    show (nameTo xs k ++ (⟨(Lib.itoa (xs.getD k 0)).toArray⟩ ++ ⟨#[32]⟩)).size ≤ _
    rw [ByteArray.size_append, ByteArray.size_append]
    have h2 : (⟨(Lib.itoa (xs.getD k 0)).toArray⟩ : ByteArray).size = (Lib.itoa (xs.getD k 0)).length := by simp [ByteArray.size]
    have h3 : (⟨#[32]⟩ : ByteArray).size = 1 := rfl
    omega

set_option maxRecDepth 100000 in
set_option maxHeartbeats 4000000 in
theorem name_any (A : Option Addr) (n c B : Nat) (xs : List Int) (w : World) (hl : xs.length = n) (hn : n ≤ 4096) (hlo : ∀ k, k < n → -1 ≤ xs.getD k 0 ∧ xs.getD k 0 ≤ 1000000) (hg : Tb w) (hr : IntRow w B (.slice A n c) xs) :
    Calls Tryz.prog 68 #[.slice A n c] w fun e w' => e = .returned (.string (nameB xs)) ∧ Fr (fun _ => False) w w' := by
  have HI := Lib.hid (fun x w h1 h2 hg => itoa_any x h1 h2 w hg)
  have HG := Lib.hid hg
  have HR := Lib.hid hr
  have HLO := Lib.hid hlo
  have HL := Lib.hid hl
  clear hg hr hlo hl
  go_enter Tryz.func68, Tryz.ntmps68
  go_wp2_with fail
  go_loopw [3, 8] (fun ov iv wr => ∃ k : Nat, ov = .string (nameTo xs k) ∧ iv = .int .i64 (k : Int) ∧ k ≤ n ∧ Fr (fun _ => False) w wr) (fun _ iv _ => n - (intOf iv).toNat)
  case atStart => exact ⟨0, rfl, rfl, Nat.zero_le _, Fr.refl _ _⟩
  case round =>
    obtain ⟨k, rfl, rfl, hk, hf⟩ := hrel
    have HF := Lib.hid hf
    by_cases hlt : k < n
    · have hlt' : (k : Int) < (n : Int) := by omega
      have hrr := HR.out.fr hf (fun _ _ h => h)
      obtain ⟨ga, rfl, _, _, _⟩ := row_form (by have h := hrr; unfold IntRow at h; rw [HL.out] at h; exact h) (show 0 < n by omega)
      have c0 : wr.cell? ⟨ga, k, none⟩ = some (.int .i64 (xs.getD k 0)) := int_cell hrr k (by have := HL.out; omega)
      have hb := HLO.out k hlt
      have hs1 := nameTo_size xs (by rw [HL.out]; exact HLO.out) k (by have := HL.out; omega)
      have hs2 : (⟨(Lib.itoa (xs.getD k 0)).toArray⟩ : ByteArray).size ≤ 21 := by
        have h1 := Lib.itoa_length_le (xs.getD k 0) (by omega) (by omega)
        simpa [ByteArray.size] using h1
      have HII := Lib.hid (fun w hg => HI.out (xs.getD k 0) w (by omega) (by omega) hg)
      have HS := Lib.hid (show nameTo xs (k + 1) = nameTo xs k ++ (⟨(Lib.itoa (xs.getD k 0)).toArray⟩ ++ ⟨#[32]⟩) from rfl)
      generalize nameTo xs k = nk at *
      generalize (⟨(Lib.itoa (xs.getD k 0)).toArray⟩ : ByteArray) = it at *
      generalize xs.getD k 0 = x at *
      have HGG := Lib.hid (HG.out.frF hf)
      have q1 : ¬ 9223372036854775807 < it.size + 1 := by omega
      have q2 : ¬ 9223372036854775807 < nk.size + (it.size + 1) := by omega
      clear hrr hf hb hs1 hs2
      go_wp2_with fail
      refine (HII.out _ HGG.out).mono ?_
      rintro e w2 ⟨rfl, hf2⟩
      have HF2 := Lib.hid (HF.out.trans' hf2)
      clear hf2
      go_wp2_with fail
      go_roundw
      case rel => exact ⟨k + 1, by rw [← HS.out], by go_num, by omega, HF2.out⟩
      case measure => simp only [intOf]; omega
    · have hlt' : ¬ (k : Int) < (n : Int) := by omega
      obtain rfl : k = n := by omega
      have HE := Lib.hid (show nameTo xs k = nameB xs by unfold nameB; rw [HL.out])
      clear hf
      go_wp2_with fail
      go_ret
      exact ⟨congrArg (fun s => Ending.returned (Value.string s)) HE.out, HF.out⟩

end Go.Proofs.YtebddgdkndmpjaaGreatDoor
