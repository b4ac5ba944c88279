/- TotalCounts: what the walk needs. -/
import Derived.Test.YtflhmieeidnpgaaGreatDoorHq
import Derived.Test.YtflhmieeidnpgaaGreatDoorHe
import Derived.Test.YtflhmieeidnpgaaGreatDoorGz
import Derived.Deep.CutBlock
import Derived.Deep.RegionLawGrows
import Derived.Deep.Cut
import Derived.Deep.CutRange
import Derived.WalkKit
import Derived.WalkLawsBesides
import Derived.WalkSpells
import Derived.Deep.QuietTactic
import Derived.BigRegion
import Derived.BigQuiet
import Derived.Lib.Hide
import Derived.Outline
import Derived.Deep.AppendLies
import Derived.Deep.RegionLaw
import Derived.Deep.RegionWith
import Derived.Deep.RegionHeld3
import Derived.Deep.LoopGhost
import Derived.Deep.DeepFit
import Derived.Laws.ResultCell
import Derived.Laws.RangeAny
import Derived.Deep.MidRow
import Derived.StillTailTactics
import Derived.OpenShut
namespace Go.Proofs.YtflhmieeidnpgaaGreatDoor
set_option linter.unusedVariables false
open Go.RowKit Go

theorem IsIn.later {w w' : World} {a : Option Addr} {len cap : Nat} {zs : List D3} (h : IsIn w a len cap zs) (hf : Fr (fun _ => False) w w') : IsIn w' a len cap zs := by
  rcases h with h | ⟨x, h1, h2, h3, h4⟩
  · exact .inl h
  · refine .inr ⟨x, h1, h2, h3, fun i hi => ⟨(h4 i hi).1, fun j hj => ?_⟩⟩
    have h5 := (h4 i hi).2 j hj
    obtain ⟨v, hv⟩ : ∃ v, (zs.getD i default).list[j]? = some v := by
      rw [List.getElem?_eq_getElem (by simp [D3.list, DT.list]; omega)]
      exact ⟨_, rfl⟩
    rw [hv] at h5 ⊢
    exact cell_fr hf h5
theorem nDigits_le : ∀ (k u : Nat), u < 10 ^ (k + 1) → Lib.nDigits u ≤ k + 1
  | 0, u, h => by rw [Lib.nDigits_small (by simpa using h)]; exact Nat.le_refl _
  | k + 1, u, h => by
    by_cases h2 : u < 10
    · rw [Lib.nDigits_small h2]
      omega
    · rw [Lib.nDigits_big h2]
      have := nDigits_le k (u / 10) (by rw [Nat.pow_succ] at h; omega)
      omega
theorem itoa_len (n : Int) (h1 : -9223372036854775808 ≤ n) (h2 : n ≤ 9223372036854775807) : (Lib.itoa n).length ≤ 21 := by
  have hb : ∀ u : Nat, u ≤ 9223372036854775808 → (Lib.decDigits u).length ≤ 20 := fun u hu => by
    rw [Lib.decDigits_length]
    exact nDigits_le 19 u (by omega)
  unfold Lib.itoa
  split
  · rw [List.length_cons]
    have := hb n.natAbs (by omega)
    omega
  · have := hb n.toNat (by omega)
    omega
theorem intTm_short (n : Int) (h1 : -9223372036854775808 ≤ n) (h2 : n ≤ 9223372036854775807) : (intTm n).short := by
  have h := itoa_len n h1 h2
  exact (show (⟨(Lib.itoa n).toArray⟩ : ByteArray).size ≤ 4096 ∧ xInt.size ≤ 4096 ∧ (⟨#[]⟩ : ByteArray).size ≤ 4096 from ⟨by show (Lib.itoa n).toArray.size ≤ 4096; rw [List.size_toArray]; omega, by decide, by decide⟩)
theorem smallTm_int (n : Nat) : smallTm n = intTm (n : Int) := by
  unfold smallTm intTm
  rw [Lib.itoa_nonneg]
theorem tm_short {x : DT} (h : dOk x = true) : (toTm (plainT x)).short := by
  unfold dOk at h
  simp only [Bool.and_eq_true, decide_eq_true_eq] at h
  obtain ⟨a1, a2, a3⟩ := h
  have hs : (plainT x).text.size ≤ 200 ∧ (plainT x).type.size ≤ 200 ∧ (plainT x).lang.size ≤ 50 := by
    unfold plainT
    split
    · exact ⟨a1, a2, a3⟩
    · exact ⟨a1, Nat.zero_le 200, Nat.zero_le 50⟩
  obtain ⟨b1, b2, b3⟩ := hs
  unfold toTm
  split
  · exact (show (plainT x).text.size ≤ 4096 by omega)
  · split
    · exact (show (plainT x).text.size ≤ 4096 by omega)
    · exact (show (plainT x).text.size ≤ 4096 ∧ (plainT x).type.size ≤ 4096 ∧ (plainT x).lang.size ≤ 4096 from ⟨by omega, by omega, by omega⟩)
theorem putL_mem {ts : List Tm} {t u : Tm} {room : Int} (h : u ∈ putL ts t room) : u ∈ ts ∨ u = t := by
  unfold putL at h
  split at h
  · split at h
    · exact .inl h
    · split at h
      · exact .inl h
      · rw [List.mem_append, List.mem_singleton] at h
        exact h
  · exact .inl h
theorem bRowTo_short (ts : List Tm) (d : D3) (ht : ∀ t, t ∈ ts → t.short) : ∀ k, k ≤ 3 → (∀ j, j < k → dOk (d.at j) = true) → ∀ t, t ∈ (bRowTo ts d k).ts → t.short
  | 0, _, _ => ht
  | k + 1, hk, hok => by
    have ih := bRowTo_short ts d ht k (by omega) (fun j hj => hok j (by omega))
    intro t h
    unfold bRowTo bElem at h
    split at h
    · rcases putL_mem h with h | h
      · exact ih t h
      · rw [h]
        exact tm_short (hok k (by omega))
    · exact ih t h
theorem bTo_short (zs : List D3) : ∀ i, (∀ j, j < i → ∀ k, k < 3 → dOk ((zs.getD j default).at k) = true) → ∀ t, t ∈ (bTo zs i).ts → t.short
  | 0, _, t, h => by cases h
  | i + 1, hok, t, h => bRowTo_short (bTo zs i).ts (zs.getD i default) (bTo_short zs i (fun j hj => hok j (by omega))) 3 (Nat.le_refl _) (hok i (by omega)) t h
/-- What comes of BY. -/
def byC (j : Nat) : List Key := if j = 0 then [⟨⟨#[97]⟩, 0, true⟩] else if j = 1 then [⟨⟨#[98]⟩, 1, true⟩] else [⟨⟨#[97]⟩, 0, true⟩, ⟨⟨#[99]⟩, 2, true⟩]
theorem byC_ok (j : Nat) : KeysOk (byC j) := by
  intro k hk
  unfold byC at hk
  split at hk
  · simp only [List.mem_singleton] at hk
    subst hk
    exact var_a
  · split at hk
    · simp only [List.mem_singleton] at hk
      subst hk
      exact var_b
    · simp only [List.mem_cons, List.not_mem_nil, or_false] at hk
      rcases hk with rfl | rfl
      · exact var_a
      · exact var_c
theorem byC_len (j : Nat) : 0 < (byC j).length ∧ (byC j).length ≤ 2 := by
  unfold byC
  split
  · exact ⟨by decide, by decide⟩
  · split
    · exact ⟨by decide, by decide⟩
    · exact ⟨by decide, by decide⟩
theorem byC_idx (pick : Int) (hp0 : 0 ≤ pick) (h0 h1 h2 : Nat) : ∃ (g m j : Nat), (∀ w, (Instr.index 53 (.agg #[.slice (some ⟨h0, 0, none⟩) 1 1, .slice (some ⟨h1, 0, none⟩) 1 1, .slice (some ⟨h2, 0, none⟩) 2 2]) (.int .u8 (pick % 3))).run Tryz.prog w = .ok (.slice (some ⟨g, 0, none⟩) m m) w) ∧
    m = (byC j).length ∧ ((j = 0 ∧ g = h0) ∨ (j = 1 ∧ g = h1) ∨ (j = 2 ∧ g = h2)) := by
  have h5 : pick % 3 = 0 ∨ pick % 3 = 1 ∨ pick % 3 = 2 := by omega
  rcases h5 with h | h | h
  · exact ⟨h0, 1, 0, fun w => by rw [h]; kernel_rfl, rfl, .inl ⟨rfl, rfl⟩⟩
  · exact ⟨h1, 1, 1, fun w => by rw [h]; kernel_rfl, rfl, .inr (.inl ⟨rfl, rfl⟩)⟩
  · exact ⟨h2, 2, 2, fun w => by rw [h]; kernel_rfl, rfl, .inr (.inr ⟨rfl, rfl⟩)⟩
theorem Blk.newOf {w : World} {g : Nat} (t : TypeId) (cs : Array Value) (h : w.heap.size = g) : Blk (w.alloc (.cells cs t)) g t cs := by
  rw [← h]
  exact Blk.new w t cs
theorem blk_strs {w : World} {g : Nat} {cs : Array Value} (h : Blk w g 9 cs) (n : Nat) (hn : cs.size = n) (hm : n ≤ maxLen) : w.ownsRow 0 9 1 (.slice (some ⟨g, 0, none⟩) n n) n cs.toList :=
  ⟨by simp [hn], .inr ⟨g, n, cs, rfl, Nat.zero_le _, h, Nat.le_refl _, hm, by omega, List.take_of_length_le (by rw [Array.length_toList]; omega)⟩⟩
theorem byC_row {w : World} {m g j : Nat} (a b c : Nat) (ha : Blk w a 9 #[.string ⟨#[97]⟩]) (hb : Blk w b 9 #[.string ⟨#[98]⟩]) (hc : Blk w c 9 #[.string ⟨#[97]⟩, .string ⟨#[99]⟩])
    (hm : m = (byC j).length) (h : (j = 0 ∧ g = a) ∨ (j = 1 ∧ g = b) ∨ (j = 2 ∧ g = c)) : w.ownsRow 0 9 1 (.slice (some ⟨g, 0, none⟩) (byC j).length m) (byC j).length (((byC j).map Key.v).map .string) := by
  rw [hm]
  rcases h with ⟨rfl, rfl⟩ | ⟨rfl, rfl⟩ | ⟨rfl, rfl⟩
  · exact blk_strs ha 1 rfl (by decide)
  · exact blk_strs hb 1 rfl (by decide)
  · exact blk_strs hc 2 rfl (by decide)

end Go.Proofs.YtflhmieeidnpgaaGreatDoor
