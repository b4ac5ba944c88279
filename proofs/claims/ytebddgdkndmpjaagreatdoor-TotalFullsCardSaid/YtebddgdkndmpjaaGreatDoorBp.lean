/- A scanner of an ASCII text: walked. -/
import Derived.Test.YtebddgdkndmpjaaGreatDoorBd
import Derived.Laws.IdiomStrings
import Derived.Laws.AppendOwn
import Derived.Deep.CutBlock
import Derived.Deep.RegionLawGrows
import Derived.Deep.Cut
import Derived.Deep.CutRange
import Derived.WalkKit
import Derived.WalkLawsBesides
import Derived.WalkSpells
import Derived.Deep.QuietTactic
import Derived.BigRegion
import Derived.BigQuiet
import Derived.Lib.Hide
import Derived.Outline
import Derived.Deep.AppendLies
import Derived.Deep.RegionLaw
import Derived.Deep.RegionWith
import Derived.Deep.RegionHeld3
import Derived.Deep.LoopGhost
import Derived.Deep.DeepFit
import Derived.Laws.ResultCell
import Derived.Laws.RangeAny
import Derived.Deep.MidRow
import Derived.StillTailTactics
import Derived.OpenShut
namespace Go.Proofs.YtebddgdkndmpjaaGreatDoor
set_option linter.unusedVariables false
open Go.RowKit Go

theorem textFrom_ascii (s : ByteArray) (h : Ascii s) : ∀ m p, s.size - p ≤ m → textFrom s p = true
  | 0, p, hp => textFrom_end s p (by omega)
  | m + 1, p, hp => by
    by_cases hlt : p < s.size
    · rw [textFrom_step s p hlt, decode_ascii s p hlt (h p hlt)]
      have h1 : okS s p (s[p]'hlt).toNat = true := by
        unfold okS
        have : ¬ (s[p]'hlt).toNat = 65533 := by have := h p hlt; omega
        rw [decide_eq_false this]
        rfl
      simp only [h1, Bool.true_and]
      exact textFrom_ascii s h m (p + 1) (by omega)
    · exact textFrom_end s p hlt
theorem runes_ascii (s : ByteArray) (h : Ascii s) : ∀ bound i acc, s.size - i ≤ bound → Conv.runesFrom s bound i acc = acc ++ (((txt s).drop i).map (Value.int .i32)).toArray
  | 0, i, acc, hb => by
    have : (txt s).drop i = [] := List.drop_eq_nil_of_le (by rw [txt_len]; omega)
    rw [this]
    simp [Conv.runesFrom]
  | b + 1, i, acc, hb => by
    rw [Conv.runesFrom]
    by_cases hlt : i < s.size
    · rw [if_pos hlt, decode_ascii s i hlt (h i hlt)]
      simp only []
      rw [runes_ascii s h b (i + 1) _ (by omega)]
      have hl : i < (txt s).length := by rw [txt_len]; exact hlt
      have e : (txt s).drop i = (((s[i]'hlt).toNat : Int)) :: (txt s).drop (i + 1) := by
        rw [List.drop_eq_getElem_cons hl]
        congr 1
        have := txt_get s i hlt
        rw [List.getD_eq_getElem?_getD, List.getElem?_eq_getElem hl] at this
        exact this
      rw [e]
      apply Array.ext'
      simp
    · rw [if_neg hlt]
      have : (txt s).drop i = [] := List.drop_eq_nil_of_le (by rw [txt_len]; omega)
      rw [this]
      simp
theorem txt_valid (s : ByteArray) (h : Ascii s) : ∀ r, r ∈ txt s → Lib.validRune r = true ∧ 0 ≤ r := by
  intro r hr
  obtain ⟨i, hi, rfl⟩ := List.mem_iff_getElem.1 hr
  have hi2 : i < s.size := by rw [txt_len] at hi; exact hi
  have h1 := h i hi2
  have h2 := txt_get s i hi2
  rw [List.getD_eq_getElem?_getD, List.getElem?_eq_getElem hi, Option.getD_some] at h2
  rw [h2]
  refine ⟨?_, by omega⟩
  unfold Lib.validRune
  simp
  omega

set_option maxRecDepth 100000 in
set_option maxHeartbeats 4000000 in
theorem new_sc (s : ByteArray) (w : World) (h : Ascii s) (h0 : 0 < s.size) (hs : s.size ≤ 4096) : Calls Tryz.prog 86 #[.string s] w fun e w' => ∃ b g c, e = .returned (.tuple #[.pointer (some ⟨b, 0, none⟩), .int .i64 0, .int .i64 0]) ∧ w.heap.size ≤ b ∧ Sc w' b (some ⟨g, 0, none⟩) c (txt s) 0 ∧ Fr (fun _ => False) w w' := by
  have HW := Lib.hid (wrong_any s w hs)
  have hr := runes_ascii s h s.size 0 #[] (by omega)
  rw [List.drop_zero, Array.empty_append] at hr
  have HCV := Lib.hid (fun w1 => run_runes_of_string (P := Tryz.prog) w1 9 237 21 s Tryz.underlying9 Tryz.underlying237 Tryz.underlying21 (by rw [hr]; simp [txt_len]; omega))
  rw [hr] at HCV
  have hsz : (((txt s).map (Value.int .i32)).toArray).size = (txt s).length := by simp
  rw [hsz] at HCV
  have HT := Lib.hid (textFrom_ascii s h s.size 0 (by omega))
  have HV := Lib.hid (txt_valid s h)
  have HL := Lib.hid (txt_len s)
  have h0' : 0 < (txt s).length := by rw [txt_len]; exact h0
  have hs' : (txt s).length ≤ 4096 := by rw [txt_len]; exact hs
  generalize txt s = rs at *
  clear hr hsz h
  go_enter Tryz.func86, Tryz.ntmps86
  go_wp2_with fail
  refine HW.out.mono ?_
  rintro e w1 ⟨n, rfl, hn, hf1⟩
  rw [HT.out] at hn
  have hn0 : n < 0 := by simpa using hn
  have hcv := HCV.out w1
  have hge := grownCap_ge w1 rs.length 0 21
  have hle := grownCap_le_maxLen w1 rs.length 0 21 (by unfold maxLen; omega)
  generalize grownCap w1 rs.length 0 21 = cap at *
  have hb0 := Blk.new w1.drew 21 ((rs.map (Value.int .i32)).toArray ++ Array.replicate (cap - rs.length) (.int .i32 0))
  have HB0 := Lib.hid hb0
  have HROW := Lib.hid (show (w1.drew.alloc (.cells ((rs.map (Value.int .i32)).toArray ++ Array.replicate (cap - rs.length) (.int .i32 0)) 21)).ownsRow 0 21 1 (.slice (some ⟨w1.heap.size, 0, none⟩) rs.length cap) rs.length (rs.map (.int .i32)) from
    ⟨by simp, .inr ⟨w1.heap.size, cap, _, rfl, Nat.zero_le _, hb0, hge, hle, by simp; omega, by simp⟩⟩)
  have HF1 := Lib.hid (show Fr (fun _ => False) w (w1.drew.alloc (.cells ((rs.map (Value.int .i32)).toArray ++ Array.replicate (cap - rs.length) (.int .i32 0)) 21)) from (hf1.drew).alloc _)
  have hz : (w1.drew.alloc (.cells ((rs.map (Value.int .i32)).toArray ++ Array.replicate (cap - rs.length) (.int .i32 0)) 21)).heap.size = w1.heap.size + 1 := by simp
  generalize w1.drew.alloc (.cells ((rs.map (Value.int .i32)).toArray ++ Array.replicate (cap - rs.length) (.int .i32 0)) 21) = w2 at *
  clear hb0 hn HB0
  have hsz1 := hf1.size
  clear hf1
  go_wp2_with fail
  go_ret3
  have hb2 := Blk.new w2 239 #[.slice (some ⟨w1.heap.size, 0, none⟩) rs.length cap, .int .i64 0]
  rw [hz] at hb2
  exact ⟨_, _, _, rfl, by omega, ⟨hb2, HROW.out.alloc _, Nat.zero_le _, hs', h0', HV.out⟩, HF1.out.alloc _⟩

end Go.Proofs.YtebddgdkndmpjaaGreatDoor
