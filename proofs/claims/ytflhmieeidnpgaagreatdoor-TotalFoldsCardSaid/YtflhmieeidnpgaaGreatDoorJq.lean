/- The fold SUM; what is short: for the law on folds. -/
import Derived.Test.YtflhmieeidnpgaaGreatDoorHo
import Derived.Test.YtflhmieeidnpgaaGreatDoorGz
import Derived.Deep.CutBlock
import Derived.Deep.RegionLawGrows
import Derived.Deep.Cut
import Derived.Deep.CutRange
import Derived.WalkKit
import Derived.WalkLawsBesides
import Derived.WalkSpells
import Derived.Deep.QuietTactic
import Derived.BigRegion
import Derived.BigQuiet
import Derived.Lib.Hide
import Derived.Outline
import Derived.Deep.AppendLies
import Derived.Deep.RegionLaw
import Derived.Deep.RegionWith
import Derived.Deep.RegionHeld3
import Derived.Deep.LoopGhost
import Derived.Deep.DeepFit
import Derived.Laws.ResultCell
import Derived.Laws.RangeAny
import Derived.Deep.MidRow
import Derived.StillTailTactics
import Derived.OpenShut
namespace Go.Proofs.YtflhmieeidnpgaaGreatDoor
set_option linter.unusedVariables false
open Go.RowKit Go

theorem sumPost_mono {l : List Tm} {w w0 w' : World} {e : Ending} (hf : Fr (fun _ => False) w0 w) (h : SumPost l w e w') : SumPost l w0 e w' := ⟨hf.trans' h.1, h.2⟩
set_option maxRecDepth 100000 in
set_option maxHeartbeats 4000000 in
theorem foldSum_any (vg vc B1 B2 B b r : Nat) (vt vr : Value) (vals : List Value) (ts : List Tm) (room : Int) (rows : List (List Int)) (w : World) (hn : rows.length ≤ 100) (h3 : ∀ r, r ∈ rows → r.length = 3) (hl : ts.length ≤ 100000) (hsh : ∀ t, t ∈ ts → t.short)
    (hs : w.ownsRow B1 9 1 (.slice (some ⟨vg, 0, none⟩) 3 vc) 3 (abc.map .string)) (hr : RowsAt w B2 vr vals rows) (hd : IsDict w B b r vt ts room) (hg : Glob w) :
    Calls Tryz.prog 8 #[.string ⟨#[83, 85, 77]⟩, .string ⟨#[98]⟩, .agg #[.slice (some ⟨vg, 0, none⟩) 3 vc, vr], .pointer (some ⟨b, 0, none⟩)] w (SumPost (termsTo ts 1 true rows rows.length) w) := by
  have HT := Lib.hid (fun wy (hf : Fr (fun _ => False) w wy) => terms_any vg vc B1 B2 B b r 1 ⟨#[98]⟩ true vt vr vals ts room rows wy var_b (by omega) h3 hl (ownsRow_fr hs hf (fun _ _ h => h)) (hr.frF hf) (hd.frF hf))
  obtain ⟨A0, c0, hvt⟩ := row_shape hr.own
  subst hvt
  have HG := Lib.hid hg
  have HLE := Lib.hid (termsTo_le ts 1 true rows rows.length)
  have HSH := Lib.hid hsh
  clear hs hr hd hg hsh h3
  generalize termsTo ts 1 true rows rows.length = l at *
  go_enter Tryz.func8, Tryz.ntmps8
  go_wp2_with fail
  refine (HT.out _ ((Fr.refl _ _).alloc _)).mono ?_
  rintro e w1 ⟨v, rfl, hrow, hf1⟩
  have F1 : Fr (fun _ => False) w w1 := ((Fr.refl _ w).alloc _).trans' hf1
  have HF1 := Lib.hid F1
  have HS := Lib.hid (sum_any _ v l w1 (by have := HLE.out.1; omega) (fun t ht => HSH.out t (HLE.out.2 t ht)) hrow (HG.out.fr F1))
  obtain ⟨Al, cl, hvl⟩ := row_shape hrow
  subst hvl
  clear hf1 F1 hrow
  go_wp2_with fail
  refine HS.out.mono ?_
  rintro e w2 ⟨hf2, ⟨s, rfl, hs⟩ | ⟨rfl, hs⟩⟩
  · have HF2 := Lib.hid (HF1.out.trans' hf2)
    have HSI := Lib.hid hs
    unfold intTm Tm.val
    have HIT := Lib.hid (show (intTm s).val = .iface 59 (.agg #[.string ⟨(Lib.itoa s).toArray⟩, .string xInt, .string ⟨#[]⟩]) from rfl)
    generalize (⟨(Lib.itoa s).toArray⟩ : ByteArray) = is at *
    generalize xInt = xi at *
    clear hf2 hs
    go_wp2_with fail
    go_ret2
    exact ⟨HF2.out, .inl ⟨s, by rw [HIT.out]; rfl, HSI.out⟩⟩
  · have HF2 := Lib.hid (HF1.out.trans' hf2)
    have HSI := Lib.hid hs
    clear hf2 hs
    go_wp2_with fail
    go_ret2
    exact ⟨HF2.out, .inr ⟨rfl, HSI.out⟩⟩

theorem IsIn.later {w w' : World} {a : Option Addr} {len cap : Nat} {zs : List D3} (h : IsIn w a len cap zs) (hf : Fr (fun _ => False) w w') : IsIn w' a len cap zs := by
  rcases h with h | ⟨x, h1, h2, h3, h4⟩
  · exact .inl h
  · refine .inr ⟨x, h1, h2, h3, fun i hi => ⟨(h4 i hi).1, fun j hj => ?_⟩⟩
    have h5 := (h4 i hi).2 j hj
    obtain ⟨v, hv⟩ : ∃ v, (zs.getD i default).list[j]? = some v := by
      rw [List.getElem?_eq_getElem (by simp [D3.list, DT.list]; omega)]
      exact ⟨_, rfl⟩
    rw [hv] at h5 ⊢
    exact cell_fr hf h5
theorem nDigits_le : ∀ (k u : Nat), u < 10 ^ (k + 1) → Lib.nDigits u ≤ k + 1
  | 0, u, h => by rw [Lib.nDigits_small (by simpa using h)]; exact Nat.le_refl _
  | k + 1, u, h => by
    by_cases h2 : u < 10
    · rw [Lib.nDigits_small h2]
      omega
    · rw [Lib.nDigits_big h2]
      have := nDigits_le k (u / 10) (by rw [Nat.pow_succ] at h; omega)
      omega
theorem itoa_len (n : Int) (h1 : -9223372036854775808 ≤ n) (h2 : n ≤ 9223372036854775807) : (Lib.itoa n).length ≤ 21 := by
  have hb : ∀ u : Nat, u ≤ 9223372036854775808 → (Lib.decDigits u).length ≤ 20 := fun u hu => by
    rw [Lib.decDigits_length]
    exact nDigits_le 19 u (by omega)
  unfold Lib.itoa
  split
  · rw [List.length_cons]
    have := hb n.natAbs (by omega)
    omega
  · have := hb n.toNat (by omega)
    omega
theorem intTm_short (n : Int) (h1 : -9223372036854775808 ≤ n) (h2 : n ≤ 9223372036854775807) : (intTm n).short := by
  have h := itoa_len n h1 h2
  exact (show (⟨(Lib.itoa n).toArray⟩ : ByteArray).size ≤ 4096 ∧ xInt.size ≤ 4096 ∧ (⟨#[]⟩ : ByteArray).size ≤ 4096 from ⟨by show (Lib.itoa n).toArray.size ≤ 4096; rw [List.size_toArray]; omega, by decide, by decide⟩)
theorem smallTm_int (n : Nat) : smallTm n = intTm (n : Int) := by
  unfold smallTm intTm
  rw [Lib.itoa_nonneg]
theorem tm_short {x : DT} (h : dOk x = true) : (toTm (plainT x)).short := by
  unfold dOk at h
  simp only [Bool.and_eq_true, decide_eq_true_eq] at h
  obtain ⟨a1, a2, a3⟩ := h
  have hs : (plainT x).text.size ≤ 200 ∧ (plainT x).type.size ≤ 200 ∧ (plainT x).lang.size ≤ 50 := by
    unfold plainT
    split
    · exact ⟨a1, a2, a3⟩
    · exact ⟨a1, Nat.zero_le 200, Nat.zero_le 50⟩
  obtain ⟨b1, b2, b3⟩ := hs
  unfold toTm
  split
  · exact (show (plainT x).text.size ≤ 4096 by omega)
  · split
    · exact (show (plainT x).text.size ≤ 4096 by omega)
    · exact (show (plainT x).text.size ≤ 4096 ∧ (plainT x).type.size ≤ 4096 ∧ (plainT x).lang.size ≤ 4096 from ⟨by omega, by omega, by omega⟩)
theorem putL_mem {ts : List Tm} {t u : Tm} {room : Int} (h : u ∈ putL ts t room) : u ∈ ts ∨ u = t := by
  unfold putL at h
  split at h
  · split at h
    · exact .inl h
    · split at h
      · exact .inl h
      · rw [List.mem_append, List.mem_singleton] at h
        exact h
  · exact .inl h
theorem bRowTo_short (ts : List Tm) (d : D3) (ht : ∀ t, t ∈ ts → t.short) : ∀ k, k ≤ 3 → (∀ j, j < k → dOk (d.at j) = true) → ∀ t, t ∈ (bRowTo ts d k).ts → t.short
  | 0, _, _ => ht
  | k + 1, hk, hok => by
    have ih := bRowTo_short ts d ht k (by omega) (fun j hj => hok j (by omega))
    intro t h
    unfold bRowTo bElem at h
    split at h
    · rcases putL_mem h with h | h
      · exact ih t h
      · rw [h]
        exact tm_short (hok k (by omega))
    · exact ih t h
theorem bTo_short (zs : List D3) : ∀ i, (∀ j, j < i → ∀ k, k < 3 → dOk ((zs.getD j default).at k) = true) → ∀ t, t ∈ (bTo zs i).ts → t.short
  | 0, _, t, h => by cases h
  | i + 1, hok, t, h => bRowTo_short (bTo zs i).ts (zs.getD i default) (bTo_short zs i (fun j hj => hok j (by omega))) 3 (Nat.le_refl _) (hok i (by omega)) t h

end Go.Proofs.YtflhmieeidnpgaaGreatDoor
