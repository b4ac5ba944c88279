/- TotalGroups: walked. -/
import Derived.Test.YtflhmieeidnpgaaGreatDoorHh
import Derived.Test.YtflhmieeidnpgaaGreatDoorHg
import Derived.Test.YtflhmieeidnpgaaGreatDoorHf
import Derived.Test.YtflhmieeidnpgaaGreatDoorHe
import Derived.Test.YtflhmieeidnpgaaGreatDoorGz
import Derived.Deep.CutBlock
import Derived.Deep.RegionLawGrows
import Derived.Deep.Cut
import Derived.Deep.CutRange
import Derived.WalkKit
import Derived.WalkLawsBesides
import Derived.WalkSpells
import Derived.Deep.QuietTactic
import Derived.BigRegion
import Derived.BigQuiet
import Derived.Lib.Hide
import Derived.Outline
import Derived.Deep.AppendLies
import Derived.Deep.RegionLaw
import Derived.Deep.RegionWith
import Derived.Deep.RegionHeld3
import Derived.Deep.LoopGhost
import Derived.Deep.DeepFit
import Derived.Laws.ResultCell
import Derived.Laws.RangeAny
import Derived.Deep.MidRow
import Derived.StillTailTactics
import Derived.OpenShut
namespace Go.Proofs.YtflhmieeidnpgaaGreatDoor
set_option linter.unusedVariables false
open Go.RowKit Go

theorem getD_01 (v : Value) (i : Nat) (p : Value × Value) (hi : i < 1) : [p].getD i (undef, undef) = p := by
  have : i = 0 := by omega
  subst this
  rfl
set_option maxRecDepth 100000 in
set_option maxHeartbeats 4000000 in
theorem groups_nil (vg vc B2 B3 : Nat) (vr : Value) (vals : List Value) (rows : List (List Int)) (w : World)
    (hv : w.ownsRow B2 9 1 (.slice (some ⟨vg, 0, none⟩) 3 vc) 3 (abc.map .string)) (hr : RowsAt w B3 vr vals rows) :
    Calls Tryz.prog 12 #[.agg #[.slice (some ⟨vg, 0, none⟩) 3 vc, vr], .slice none 0 0] w fun e w' => ∃ v, e = .returned v ∧ GroupsAt w' w.heap.size 0 v [(.slice (some ⟨vg, 0, none⟩) 3 vc, vr)] [rows] ∧ Fr (fun _ => False) w w' := by
  obtain ⟨A0, c0, hvt⟩ := row_shape hr.own
  subst hvt
  have HV := Lib.hid hv
  have HR := Lib.hid hr
  clear hv hr
  go_enter Tryz.func12, Tryz.ntmps12
  go_wp2_with fail
  go_ret
  have F1 : Fr (fun _ => False) w ((w.alloc (.cells #[.slice (some ⟨vg, 0, none⟩) 3 vc, .slice A0 rows.length c0] 29)).alloc (.cells #[.slice none 0 0] 26)) := ((Fr.refl _ _).alloc _).alloc _
  have hz : ((w.alloc (.cells #[.slice (some ⟨vg, 0, none⟩) 3 vc, .slice A0 rows.length c0] 29)).alloc (.cells #[.slice none 0 0] 26)).heap.size = w.heap.size + 1 + 1 := by simp
  generalize ((w.alloc (.cells #[.slice (some ⟨vg, 0, none⟩) 3 vc, .slice A0 rows.length c0] 29)).alloc (.cells #[.slice none 0 0] 26)) = w1 at *
  have F2 : Fr (fun _ => False) w (w1.alloc (.cells #[.slice (some ⟨vg, 0, none⟩) 3 vc, .slice A0 rows.length c0] 29)) := F1.alloc _
  have hl := World.ownsRow_lit (base := w.heap.size) (size := 2) (e := 29) w1 #[.slice (some ⟨vg, 0, none⟩) 3 vc, .slice A0 rows.length c0] 1 F1.size (by decide) rfl
  rw [hz] at hl
  refine ⟨.slice (some ⟨w.heap.size + 1 + 1, 0, none⟩) 1 1, rfl, ⟨rfl, hl, fun i hi => ?_, fun i j hi hj hij => absurd hij (by simp at hi hj; omega)⟩, F2⟩
  have hi0 : i = 0 := by simpa using hi
  subst hi0
  exact ⟨⟨vg, vc, rfl⟩, ownsRow_base (ownsRow_fr HV.out F2 (fun _ _ h => h)) (Nat.zero_le _), vals, (HR.out.frF F2).base (Nat.zero_le _)⟩

theorem IsIn.frF {w w' : World} {a : Option Addr} {len cap : Nat} {zs : List D3} (h : IsIn w a len cap zs) (hf : Fr (fun _ => False) w w') : IsIn w' a len cap zs := by
  rcases h with h | ⟨x, h1, h2, h3, h4⟩
  · exact .inl h
  · refine .inr ⟨x, h1, h2, h3, fun i hi => ⟨(h4 i hi).1, fun j hj => ?_⟩⟩
    have h5 := (h4 i hi).2 j hj
    obtain ⟨v, hv⟩ : ∃ v, (zs.getD i default).list[j]? = some v := by
      rw [List.getElem?_eq_getElem (by simp [D3.list, DT.list]; omega)]
      exact ⟨_, rfl⟩
    rw [hv] at h5 ⊢
    exact cell_fr hf h5

/-- What comes of BY. -/
def byL (j : Nat) : List Key := if j = 1 then [⟨⟨#[97]⟩, 0, true⟩] else if j = 2 then [⟨⟨#[98]⟩, 1, true⟩, ⟨⟨#[97]⟩, 0, true⟩] else if j = 3 then [⟨⟨#[99]⟩, 2, true⟩] else [⟨⟨#[113]⟩, 3, false⟩]
theorem byL_ok (j : Nat) : KeysOk (byL j) := by
  intro k hk
  unfold byL at hk
  split at hk
  · simp only [List.mem_singleton] at hk
    subst hk
    exact var_a
  · split at hk
    · simp only [List.mem_cons, List.not_mem_nil, or_false] at hk
      rcases hk with rfl | rfl
      · exact var_b
      · exact var_a
    · split at hk
      · simp only [List.mem_singleton] at hk
        subst hk
        exact var_c
      · simp only [List.mem_singleton] at hk
        subst hk
        exact var_q

theorem Blk.newAt {w : World} {g : Nat} (t : TypeId) (cs : Array Value) (h : w.heap.size = g) : Blk (w.alloc (.cells cs t)) g t cs := by
  rw [← h]
  exact Blk.new w t cs
theorem by_idx (pick : Int) (hp0 : 0 ≤ pick) (h0 h1 h2 h3 : Nat) : ∃ (Ab : Option Addr) (m bc : Nat), (∀ w, (Instr.index 46 (.agg #[.slice none 0 0, .slice (some ⟨h0, 0, none⟩) 1 1, .slice (some ⟨h1, 0, none⟩) 2 2, .slice (some ⟨h2, 0, none⟩) 1 1, .slice (some ⟨h3, 0, none⟩) 1 1]) (.int .u8 (pick % 5))).run Tryz.prog w = .ok (.slice Ab m bc) w) ∧
    ((Ab = none ∧ m = 0 ∧ bc = 0) ∨ ∃ j g, Ab = some ⟨g, 0, none⟩ ∧ m = (byL j).length ∧ bc = m ∧ ((j = 1 ∧ g = h0) ∨ (j = 2 ∧ g = h1) ∨ (j = 3 ∧ g = h2) ∨ (j = 4 ∧ g = h3))) := by
  have h5 : pick % 5 = 0 ∨ pick % 5 = 1 ∨ pick % 5 = 2 ∨ pick % 5 = 3 ∨ pick % 5 = 4 := by omega
  rcases h5 with h | h | h | h | h
  · exact ⟨none, 0, 0, fun w => by rw [h]; kernel_rfl, .inl ⟨rfl, rfl, rfl⟩⟩
  · exact ⟨some ⟨h0, 0, none⟩, 1, 1, fun w => by rw [h]; kernel_rfl, .inr ⟨1, h0, rfl, rfl, rfl, .inl ⟨rfl, rfl⟩⟩⟩
  · exact ⟨some ⟨h1, 0, none⟩, 2, 2, fun w => by rw [h]; kernel_rfl, .inr ⟨2, h1, rfl, rfl, rfl, .inr (.inl ⟨rfl, rfl⟩)⟩⟩
  · exact ⟨some ⟨h2, 0, none⟩, 1, 1, fun w => by rw [h]; kernel_rfl, .inr ⟨3, h2, rfl, rfl, rfl, .inr (.inr (.inl ⟨rfl, rfl⟩))⟩⟩
  · exact ⟨some ⟨h3, 0, none⟩, 1, 1, fun w => by rw [h]; kernel_rfl, .inr ⟨4, h3, rfl, rfl, rfl, .inr (.inr (.inr ⟨rfl, rfl⟩))⟩⟩
theorem blk_row {w : World} {g : Nat} {cs : Array Value} (h : Blk w g 9 cs) (n : Nat) (hn : cs.size = n) (hm : n ≤ maxLen) : w.ownsRow 0 9 1 (.slice (some ⟨g, 0, none⟩) n n) n cs.toList :=
  ⟨by simp [hn], .inr ⟨g, n, cs, rfl, Nat.zero_le _, h, Nat.le_refl _, hm, by omega, List.take_of_length_le (by rw [Array.length_toList]; omega)⟩⟩
theorem blk_row27 {w : World} {g : Nat} {cs : Array Value} (h : Blk w g 27 cs) (n : Nat) (hn : cs.size = n) (hm : n ≤ maxLen) : w.ownsRow 0 27 1 (.slice (some ⟨g, 0, none⟩) n n) n cs.toList :=
  ⟨by simp [hn], .inr ⟨g, n, cs, rfl, Nat.zero_le _, h, Nat.le_refl _, hm, by omega, List.take_of_length_le (by rw [Array.length_toList]; omega)⟩⟩
theorem by_row {w w' : World} {m g j : Nat} (a b c d : Nat) (ha : Blk w a 9 #[.string ⟨#[97]⟩]) (hb : Blk w b 9 #[.string ⟨#[98]⟩, .string ⟨#[97]⟩]) (hc : Blk w c 9 #[.string ⟨#[99]⟩]) (hd : Blk w d 9 #[.string ⟨#[113]⟩])
    (hm : m = (byL j).length) (h : (j = 1 ∧ g = a) ∨ (j = 2 ∧ g = b) ∨ (j = 3 ∧ g = c) ∨ (j = 4 ∧ g = d)) : w.ownsRow 0 9 1 (.slice (some ⟨g, 0, none⟩) (byL j).length m) (byL j).length (((byL j).map Key.v).map .string) := by
  rw [hm]
  rcases h with ⟨rfl, rfl⟩ | ⟨rfl, rfl⟩ | ⟨rfl, rfl⟩ | ⟨rfl, rfl⟩
  · exact blk_row ha 1 rfl (by decide)
  · exact blk_row hb 2 rfl (by decide)
  · exact blk_row hc 1 rfl (by decide)
  · exact blk_row hd 1 rfl (by decide)
theorem anyB_succ (f : Nat → Bool) (q : Nat) : anyB f (q + 1) = (anyB f q || f q) := by
  unfold anyB
  rw [List.range_succ, List.any_append]
  simp
theorem info27 : (Tryz.prog.info? 27).map (fun i => (i.zero, i.size, i.bytes)) = some (some (.slice none 0 0), 1, 24) := by kernel_rfl
theorem groupsTo_mem (ks : List Key) (rows : List (List Int)) : ∀ i, i ≤ rows.length → ∀ g, g ∈ groupsTo ks rows i → ∀ r, r ∈ g → r ∈ rows
  | 0, _, g, hg, r, hr => by cases hg
  | i + 1, hi, g, hg, r, hr => by
    have ih := groupsTo_mem ks rows i (by omega)
    have hx : rows.getD i [] ∈ rows := getD_mem (by omega)
    unfold groupsTo at hg
    rcases grow_cases ks (groupsTo ks rows i) (rows.getD i []) with ⟨k, hk, e⟩ | e
    · rw [e] at hg
      rcases List.mem_or_eq_of_mem_set hg with hg | rfl
      · exact ih g hg r hr
      · simp only [List.mem_append, List.mem_singleton] at hr
        rcases hr with hr | rfl
        · exact ih _ (getD_mem hk) r hr
        · exact hx
    · rw [e] at hg
      simp only [List.mem_append, List.mem_singleton] at hg
      rcases hg with hg | rfl
      · exact ih g hg r hr
      · rw [List.mem_singleton] at hr
        rw [hr]
        exact hx
theorem byL_len (j : Nat) : 0 < (byL j).length ∧ (byL j).length ≤ 2 := by
  unfold byL
  split
  · exact ⟨by decide, by decide⟩
  · split
    · exact ⟨by decide, by decide⟩
    · split
      · exact ⟨by decide, by decide⟩
      · exact ⟨by decide, by decide⟩

set_option maxRecDepth 100000 in
set_option maxHeartbeats 4000000 in
theorem groupsLaw_any (pick : Int) (hp0 : 0 ≤ pick) (hp1 : pick ≤ 255) (a : Option Addr) (len cap : Nat) (zs : List D3) (w : World) (hin : IsIn w a len cap zs) (hlen : len ≤ maxLen) :
    Calls Tryz.prog 4 #[.int .u8 pick, .slice a len cap] w (IsB true w) := by
  have HA := Lib.hid (fun w => awake_any w)
  have HIN := Lib.hid hin
  have HL := Lib.hid hlen
  obtain ⟨i27, hi27, hz270, hz271, hz272⟩ := info_parts info27
  obtain ⟨i48, hi48, hz480, hz481, hz482⟩ := info_parts info48
  clear hin hlen
  go_enter Tryz.func4, Tryz.ntmps4
  go_wp2_with fail
  refine (HA.out _).mono ?_
  rintro e w1 ⟨rfl, hf1⟩
  have HF1 := Lib.hid hf1
  have HB := Lib.hid (build_any a len cap zs w1 (HIN.out.frF hf1) HL.out)
  clear hf1
  go_wp2_with fail
  refine HB.out.mono ?_
  rintro e w2 (⟨rfl, hf2⟩ | ⟨n, b, r, vt, tv, vf, vals, hn8, hnz, rfl, hd, ht, hr, hf2, hok⟩)
  · have HF2 := Lib.hid (HF1.out.trans' hf2)
    clear hf2
    go_wp2_with fail
    go_ret
    exact ⟨rfl, HF2.out.alloc _⟩
  · have HF2 := Lib.hid (HF1.out.trans' hf2)
    obtain ⟨vg, vc, vr, rvals, rfl, hvars, hrows⟩ := ht
    obtain ⟨hrl, hfl, _, hr3⟩ := bTo_len zs n
    obtain ⟨A0, c0, hvr⟩ := row_shape hrows.own
    subst hvr
    rw [hrl]
    rw [hrl] at hrows
    have hrows2 : RowsAt w2 w1.heap.size (.slice A0 n c0) rvals (bTo zs n).rows := hrows
    have HV2 := Lib.hid hvars
    have HR2 := Lib.hid hrows2
    have HR3 := Lib.hid hr3
    have HRL := Lib.hid hrl
    obtain ⟨Ab, m, bc, hix, hby⟩ := by_idx pick hp0 (w2.heap.size + 1) (w2.heap.size + 1 + 1) (w2.heap.size + 1 + 1 + 1) (w2.heap.size + 1 + 1 + 1 + 1)
    have HBY := Lib.hid hby
    have hT0 := Blk.new w2 29 #[.slice (some ⟨vg, 0, none⟩) 3 vc, .slice A0 n c0]
    have hA0 := Blk.newAt (w := (w2.alloc (.cells #[.slice (some ⟨vg, 0, none⟩) 3 vc, .slice A0 n c0] 29))) (g := w2.heap.size + 1) 9 #[.string ⟨#[97]⟩] (by simp)
    have hB0 := Blk.newAt (w := ((w2.alloc (.cells #[.slice (some ⟨vg, 0, none⟩) 3 vc, .slice A0 n c0] 29)).alloc (.cells #[.string ⟨#[97]⟩] 9))) (g := w2.heap.size + 1 + 1) 9 #[.string ⟨#[98]⟩, .string ⟨#[97]⟩] (by simp)
    have hC0 := Blk.newAt (w := (((w2.alloc (.cells #[.slice (some ⟨vg, 0, none⟩) 3 vc, .slice A0 n c0] 29)).alloc (.cells #[.string ⟨#[97]⟩] 9)).alloc (.cells #[.string ⟨#[98]⟩, .string ⟨#[97]⟩] 9))) (g := w2.heap.size + 1 + 1 + 1) 9 #[.string ⟨#[99]⟩] (by simp)
    have hD0 := Blk.newAt (w := ((((w2.alloc (.cells #[.slice (some ⟨vg, 0, none⟩) 3 vc, .slice A0 n c0] 29)).alloc (.cells #[.string ⟨#[97]⟩] 9)).alloc (.cells #[.string ⟨#[98]⟩, .string ⟨#[97]⟩] 9)).alloc (.cells #[.string ⟨#[99]⟩] 9))) (g := w2.heap.size + 1 + 1 + 1 + 1) 9 #[.string ⟨#[113]⟩] (by simp)
    have F5 : Fr (fun _ => False) w2 (((((w2.alloc (.cells #[.slice (some ⟨vg, 0, none⟩) 3 vc, .slice A0 n c0] 29)).alloc (.cells #[.string ⟨#[97]⟩] 9)).alloc (.cells #[.string ⟨#[98]⟩, .string ⟨#[97]⟩] 9)).alloc (.cells #[.string ⟨#[99]⟩] 9)).alloc (.cells #[.string ⟨#[113]⟩] 9)) := (((((Fr.refl _ _).alloc _).alloc _).alloc _).alloc _).alloc _
    have HT5 := Lib.hid ((((hT0.alloc (.cells #[.string ⟨#[97]⟩] 9)).alloc (.cells #[.string ⟨#[98]⟩, .string ⟨#[97]⟩] 9)).alloc (.cells #[.string ⟨#[99]⟩] 9)).alloc (.cells #[.string ⟨#[113]⟩] 9))
    have HA5 := Lib.hid (((hA0.alloc (.cells #[.string ⟨#[98]⟩, .string ⟨#[97]⟩] 9)).alloc (.cells #[.string ⟨#[99]⟩] 9)).alloc (.cells #[.string ⟨#[113]⟩] 9))
    have HB5 := Lib.hid ((hB0.alloc (.cells #[.string ⟨#[99]⟩] 9)).alloc (.cells #[.string ⟨#[113]⟩] 9))
    have HC5 := Lib.hid (hC0.alloc (.cells #[.string ⟨#[113]⟩] 9))
    have HD5 := Lib.hid hD0
    have HF5 := Lib.hid (show Fr (fun _ => False) w2 _ from F5)
    have hbw : w1.heap.size ≤ w2.heap.size := (HF2.out.size |> fun _ => hf2.size)
    generalize hrw : (bTo zs n).rows = rows at *
    clear hf2 hok hd hr hfl hvars hrows hrows2 hr3 hrl hby hT0 hA0 hB0 hC0 hD0 F5 hrw
    rcases HBY.out with ⟨rfl, rfl, rfl⟩ | ⟨j, g, rfl, hm, rfl, hjg⟩
    · go_wp2_with fail
      have hz5 : (((((w2.alloc (.cells #[.slice (some ⟨vg, 0, none⟩) 3 vc, .slice A0 n c0] 29)).alloc (.cells #[.string ⟨#[97]⟩] 9)).alloc (.cells #[.string ⟨#[98]⟩, .string ⟨#[97]⟩] 9)).alloc (.cells #[.string ⟨#[99]⟩] 9)).alloc (.cells #[.string ⟨#[113]⟩] 9)).heap.size = w2.heap.size + 1 + 1 + 1 + 1 + 1 := by simp
      generalize (((((w2.alloc (.cells #[.slice (some ⟨vg, 0, none⟩) 3 vc, .slice A0 n c0] 29)).alloc (.cells #[.string ⟨#[97]⟩] 9)).alloc (.cells #[.string ⟨#[98]⟩, .string ⟨#[97]⟩] 9)).alloc (.cells #[.string ⟨#[99]⟩] 9)).alloc (.cells #[.string ⟨#[113]⟩] 9)) = w5 at *
      generalize hwvv : Value.slice (some ⟨w2.heap.size + 1 + 1 + 1 + 1 + 1, 0, none⟩) 1 1 = wv
      have hWr := Blk.newAt 27 #[.slice A0 n c0] hz5
      have FA : Fr (fun _ => False) w2 (w5.alloc (.cells #[.slice A0 n c0] 27)) := HF5.out.alloc _
      refine (groups_nil vg vc w1.heap.size w1.heap.size (.slice A0 n c0) rvals rows _ (ownsRow_fr HV2.out FA (fun _ _ h => h)) (HR2.out.frF FA)).mono ?_
      rintro e w6 ⟨gv, rfl, hgv6, hf6⟩
      have F6 := FA.trans' hf6
      have hr6 := HR2.out.frF F6
      have hwo := blk_row27 (hWr.fr hf6 (fun h => h)) 1 rfl (by decide)
      have HGRP := Lib.hid hgv6
      have HWANT := Lib.hid (show WantAt w6 0 (.slice (some ⟨w2.heap.size + 1 + 1 + 1 + 1 + 1, 0, none⟩) 1 1) [.slice A0 n c0] [rows] from
        ⟨rfl, hwo, fun i hi => by
          have hi0 : i = 0 := by simpa using hi
          subst hi0
          exact ⟨rvals, ownsRow_base hr6.own (Nat.zero_le _), fun j hj => ownsRow_base (hr6.each j hj) (Nat.zero_le _)⟩, fun i j hi hj hij => absurd hij (by simp at hi hj; omega)⟩)
      have HT6 := Lib.hid ((HT5.out.alloc (.cells #[.slice A0 n c0] 27)).fr hf6 (fun h => h))
      have HV6 := Lib.hid (ownsRow_fr HV2.out F6 (fun _ _ h => h))
      have HFR6 := Lib.hid (HF2.out.trans' F6)
      have HGS := Lib.hid (show ∀ g, g ∈ [rows] → g.length ≤ 8 ∧ ∀ r, r ∈ g → r.length = 3 ∧ ∀ x, x ∈ r → -1 ≤ x from fun g hg => by
        rw [List.mem_singleton] at hg
        subst hg
        exact ⟨by rw [HRL.out]; exact hn8, HR3.out⟩)
      have hgs8 : [rows].length ≤ 8 := by simp
      clear hix hz5 hWr FA hgv6 hf6 F6 hr6 hwo
      rw [hwvv] at HWANT
      obtain ⟨gs, hgs⟩ : ∃ gs, gs = [rows] := ⟨_, rfl⟩
      obtain ⟨ps, hps⟩ : ∃ ps, ps = [((Value.slice (some ⟨vg, 0, none⟩) 3 vc), (Value.slice A0 n c0))] := ⟨_, rfl⟩
      obtain ⟨ws, hws⟩ : ∃ ws, ws = [Value.slice A0 n c0] := ⟨_, rfl⟩
      rw [← hgs] at HGRP HWANT HGS hgs8
      rw [← hps] at HGRP
      rw [← hws] at HWANT
      clear hgs hps hws hwvv
      obtain ⟨Ag, cg, hgv⟩ := row_shape HGRP.out.own
      subst hgv
      obtain ⟨Aw3, cw3, hwv⟩ := row_shape HWANT.out.own
      subst hwv
      generalize hgl : gs.length = gn at *
      have HGL := Lib.hid hgl
      clear hgl
      go_wp2_with fail
      go_loopw [116] (fun iv wr => ∃ i : Nat, iv = .int .i64 (i : Int) ∧ i ≤ gn ∧ Fr (fun _ => False) w6 wr) (fun iv _ => gn - (intOf iv).toNat)
      case atStart => exact ⟨0, rfl, Nat.zero_le _, Fr.refl _ _⟩
      case round =>
        obtain ⟨i, rfl, hi, hfi⟩ := hrel
        obtain ⟨wi, rfl⟩ : ∃ wi : World, wi = wr := ⟨wr, rfl⟩
        have HFI := Lib.hid hfi
        clear hfi
        by_cases hil : i < gn
        · have hil' : decide (i < gn) = true := by simpa using hil
          have hil2 : (i : Int) < (gn : Int) := by omega
          have hilg : i < gs.length := by rw [HGL.out]; exact hil
          have hg6 := HGRP.out.frF HFI.out
          have hw6 := HWANT.out.frF HFI.out
          have hgo := hg6.own
          rw [HGL.out] at hgo
          obtain ⟨og, rfl, _, _, _⟩ := row_form hgo (by omega)
          have hwo := hw6.own
          rw [HGL.out] at hwo
          obtain ⟨wg, rfl, _, _, _⟩ := row_form hwo (by omega)
          obtain ⟨p1, p2⟩ := pairs_at ps i (by rw [hg6.len]; exact hilg)
          have c0 := World.ownsRow.cellAt hgo (i * 2) (by omega) |>.trans p1
          have c1 := World.ownsRow.cellAt hgo (i * 2 + 1) (by omega) |>.trans p2
          have wk : wi.cell? ⟨wg, i, none⟩ = some (ws.getD i undef) := by
            rw [World.ownsRow.cellAt hwo i (by omega), List.getD_eq_getElem?_getD, List.getElem?_eq_getElem (by have := hw6.len; rw [HGL.out] at this; omega)]; rfl
          have hgi := hg6.each i hilg
          obtain ⟨pv, pc, hp1⟩ := hgi.vars
          obtain ⟨gvals, hgr⟩ := hgi.rows
          obtain ⟨wvals, hw1, hw2⟩ := hw6.each i hilg
          obtain ⟨Ap, cp, hp2⟩ := row_shape hgr.own
          obtain ⟨Aw2, cw2, hwv2⟩ := row_shape hw1
          have hgst := hgi.strs
          obtain ⟨hgm, hg3⟩ := HGS.out _ (getD_mem (l := gs) (d := []) hilg)
          rw [hp1] at c0 hgst
          rw [hp2] at c1 hgr
          rw [hwv2] at wk hw1
          have hgil : ∀ j, j < (gs.getD i []).length → ((gs.getD i []).getD j []).length = 3 := fun j hj => (hg3 _ (getD_mem hj)).1
          have hgim : ∀ j, j < (gs.getD i []).length → ∀ k, k < 3 → -1 ≤ ((gs.getD i []).getD j []).getD k 0 := fun j hj k hk => (hg3 _ (getD_mem hj)).2 _ (getD_mem (by rw [hgil j hj]; exact hk))
          generalize gs.getD i [] = gr at *
          generalize hgrl : gr.length = gl at *
          have HGRL := Lib.hid hgrl
          have HG := Lib.hid hgr
          have HW1 := Lib.hid hw1
          have HW2 := Lib.hid hw2
          have HST := Lib.hid hgst
          have HGIL := Lib.hid hgil
          have HTI := Lib.hid (HT6.out.fr HFI.out (fun h => h))
          have HVI := Lib.hid (ownsRow_fr HV6.out HFI.out (fun _ _ h => h))
          have HGD := Lib.hid (fun wy (hf : Fr (fun _ => False) wi wy) => tabGood_any pv pc _ _ _ gvals gr wy (by rw [HGRL.out]; omega) (by rw [HGRL.out]; exact hgil) (by rw [HGRL.out]; exact hgim) (hgr.frF hf) (ownsRow_fr hgst hf (fun _ _ h => h)))
          have hbx := Blk.new wi 29 #[.slice (some ⟨pv, 0, none⟩) 3 pc, .slice Ap gl cp]
          have HBX := Lib.hid hbx
          have HCX := Lib.hid (fun wy (hf : Fr (fun _ => False) (wi.alloc (.cells #[.slice (some ⟨pv, 0, none⟩) 3 pc, .slice Ap gl cp] 29)) wy) => (⟨(hbx.fr hf (fun h => h)).cell 0, (hbx.fr hf (fun h => h)).cell 1, cell_fr (((Fr.refl _ _).alloc _).trans' hf) wk, (HTI.out.fr (((Fr.refl _ _).alloc _).trans' hf) (fun h => h)).cell 0⟩ : wy.cell? ⟨wi.heap.size, 0, none⟩ = some (.slice (some ⟨pv, 0, none⟩) 3 pc) ∧ wy.cell? ⟨wi.heap.size, 1, none⟩ = some (.slice Ap gl cp) ∧ wy.cell? ⟨wg, i, none⟩ = some (.slice Aw2 gl cw2) ∧ wy.cell? ⟨w2.heap.size, 0, none⟩ = some (.slice (some ⟨vg, 0, none⟩) 3 vc)))
          clear hg6 hw6 hgo hwo p1 p2 hgi hgr hw1 hw2 hgst hgil hgim hg3 hp1 hp2 hwv2 hgrl hbx wk
          go_wp2_with fail
          go_region_held3 (fun w' => w'.cell? ⟨wi.heap.size, 0, none⟩ = some (.slice (some ⟨pv, 0, none⟩) 3 pc) ∧ w'.cell? ⟨wi.heap.size, 1, none⟩ = some (.slice Ap gl cp) ∧ w'.cell? ⟨wg, i, none⟩ = some (.slice Aw2 gl cw2) ∧ w'.cell? ⟨w2.heap.size, 0, none⟩ = some (.slice (some ⟨vg, 0, none⟩) 3 vc))
            (first | exact HCX.out _ F1 | exact HCX.out _ (Fr.refl _ _).drew)
            ((go_at_call 13; (with_reducible refine (HGD.out _ (((Fr.refl _ _).alloc _).drew)).mono ?_); rintro e w1' ⟨rfl, hf1⟩; have F1 : Fr (fun _ => False) (wi.alloc (.cells #[.slice (some ⟨pv, 0, none⟩) 3 pc, .slice Ap gl cp] 29)) w1' := ((Fr.refl _ _).drew).trans' hf1))
          have hcx := HCX.out _ F1
          have b1 := hcx.2.1
          clear hcx
          go_wp2_with fail
          have HF1I := Lib.hid (show Fr (fun _ => False) wi w1' from ((Fr.refl _ _).alloc _).trans' F1)
          have HCX1 := Lib.hid (fun wy (hf : Fr (fun _ => False) w1' wy) => HCX.out wy (F1.trans' hf))
          clear F1 b1 hf1
          go_loopw [147] (fun jv wr => ∃ j : Nat, jv = .int .i64 (j : Int) ∧ j ≤ gl ∧ Fr (fun _ => False) w1' wr) (fun jv _ => gl - (intOf jv).toNat)
          case atStart => exact ⟨0, rfl, Nat.zero_le _, Fr.refl _ _⟩
          case round =>
            obtain ⟨j, rfl, hj, hfj⟩ := hrel
            obtain ⟨wj, rfl⟩ : ∃ wj : World, wj = wr := ⟨wr, rfl⟩
            have HFJ := Lib.hid hfj
            clear hfj
            by_cases hjl : j < gl
            · have hjl' : decide (j < gl) = true := by simpa using hjl
              have hjl2 : (j : Int) < (gl : Int) := by omega
              have FIJ : Fr (fun _ => False) wi wj := HF1I.out.trans' HFJ.out
              have hgj := HG.out.frF FIJ
              have hgo := hgj.own
              rw [HGRL.out] at hgo
              obtain ⟨ag, rfl, _, _, _⟩ := row_form hgo (by omega)
              have ak : wj.cell? ⟨ag, j, none⟩ = some (gvals.getD j undef) := by
                rw [World.ownsRow.cellAt hgo j (by omega), List.getD_eq_getElem?_getD, List.getElem?_eq_getElem (by have := hgj.len; rw [HGRL.out] at this; omega)]; rfl
              have hei := hgj.each j (by rw [HGRL.out]; exact hjl)
              have hl3 := HGIL.out j hjl
              obtain ⟨eg, ec, hve⟩ := row_pos hei (by rw [hl3]; omega)
              have hw1j := ownsRow_fr HW1.out FIJ (fun _ _ h => h)
              obtain ⟨bg, rfl, _, _, _⟩ := row_form hw1j (by omega)
              have bk : wj.cell? ⟨bg, j, none⟩ = some (wvals.getD j undef) := by
                rw [World.ownsRow.cellAt hw1j j (by omega), List.getD_eq_getElem?_getD, List.getElem?_eq_getElem (by have := hw1j.1; omega)]; rfl
              have hfi2 := (HW2.out j hjl).fr FIJ (fun _ _ h => h)
              obtain ⟨fg, fc, hvf⟩ := row_pos hfi2 (by rw [hl3]; omega)
              rw [hve] at ak hei
              rw [hvf] at bk hfi2
              rw [hl3] at ak hei bk hfi2
              generalize gr.getD j [] = ex at *
              have HEI := Lib.hid hei
              have HFI2 := Lib.hid hfi2
              have HAK := Lib.hid ak
              have HBK := Lib.hid bk
              have HL3 := Lib.hid hl3
              have hcx := HCX1.out _ HFJ.out
              have HFIJ := Lib.hid FIJ
              clear FIJ hgj hgo hei hl3 hw1j hfi2 hve hvf bk
              go_wp2_with fail
              clear hcx ak
              go_loopw [154] (fun kv wr => ∃ k : Nat, kv = .int .i64 (k : Int) ∧ k ≤ 3 ∧ Fr (fun _ => False) wj wr) (fun kv _ => 3 - (intOf kv).toNat)
              case atStart => exact ⟨0, rfl, Nat.zero_le _, Fr.refl _ _⟩
              case round =>
                obtain ⟨k, rfl, hk, hfk⟩ := hrel
                have HFK := Lib.hid hfk
                by_cases hkl : k < 3
                · have hkl' : (k : Int) < 3 := by omega
                  obtain ⟨x0, x1, x2, x3⟩ := HCX1.out _ (HFJ.out.trans' hfk)
                  have FK := HFIJ.out.trans' hfk
                  have x4 := str_cell (ownsRow_fr HST.out FK (fun _ _ h => h)) k hkl
                  have x5 : wr.cell? ⟨vg, k, none⟩ = some (.string (abc.getD k ByteArray.empty)) := str_cell (ownsRow_fr HVI.out FK (fun _ _ h => h)) k hkl
                  have x6 := int_cell (HEI.out.fr hfk (fun _ _ h => h)) k (by rw [HL3.out]; exact hkl)
                  have x7 := int_cell (HFI2.out.fr hfk (fun _ _ h => h)) k (by rw [HL3.out]; exact hkl)
                  have x8 := cell_fr hfk HBK.out
                  generalize abc.getD k ByteArray.empty = sx at *
                  generalize ex.getD k 0 = ix at *
                  obtain ⟨sy, hsy⟩ : ∃ sy, sy = sx := ⟨sx, rfl⟩
                  obtain ⟨iy, hiy⟩ : ∃ iy, iy = ix := ⟨ix, rfl⟩
                  have hne : (sx.toList != sy.toList) = false := by rw [hsy]; simp
                  have hne2 : (sx.toList == sy.toList) = true := by rw [hsy]; simp
                  have hni : (ix != iy) = false := by rw [hiy]; simp
                  have hni2 : (ix == iy) = true := by rw [hiy]; simp
                  rw [← hsy] at x5
                  rw [← hiy] at x7
                  clear hsy hiy
                  clear hfk FK
                  go_wp2_with fail
                  go_quiet (fail)
                  go_wp2_with fail
                  go_roundw
                  case rel => exact ⟨k + 1, by go_num, by omega, HFK.out.drewN _⟩
                  case measure => simp [intOf]; omega
                · have hkl' : ¬ (k : Int) < 3 := by omega
                  clear hfk
                  go_wp2_with fail
                  go_roundw
                  case rel => exact ⟨j + 1, by go_num, by omega, HFJ.out.trans' HFK.out⟩
                  case measure => simp [intOf]; omega
            · have hjl' : decide (j < gl) = false := by simpa using hjl
              go_wp2_with fail
              go_roundw
              case rel => exact ⟨i + 1, by go_num, by omega, (HFI.out.trans' HF1I.out).trans' HFJ.out⟩
              case measure => simp [intOf]; omega
        · have hil' : decide (i < gn) = false := by simpa using hil
          go_wp2_with fail
          go_ret
          exact ⟨rfl, HFR6.out.trans' HFI.out⟩
    · obtain ⟨m, rfl⟩ : ∃ m, m = bc := ⟨bc, rfl⟩
      have hm0 : ((m : Int) == 0) = false := beq_eq_false_iff_ne.2 (by have := byL_len j; omega)
      have HM := Lib.hid hm
      have HJG := Lib.hid hjg
      clear hm hjg
      go_wp2_with fail
      have HBR := Lib.hid (by_row (w' := w2) _ _ _ _ HA5.out HB5.out HC5.out HD5.out HM.out HJG.out)
      generalize (((((w2.alloc (.cells #[.slice (some ⟨vg, 0, none⟩) 3 vc, .slice A0 n c0] 29)).alloc (.cells #[.string ⟨#[97]⟩] 9)).alloc (.cells #[.string ⟨#[98]⟩, .string ⟨#[97]⟩] 9)).alloc (.cells #[.string ⟨#[99]⟩] 9)).alloc (.cells #[.string ⟨#[113]⟩] 9)) = w5 at *
      have HKS := Lib.hid (byL_ok j)
      have hmle := byL_len j
      rw [← HM.out] at hmle
      generalize hks : byL j = ks at *
      clear hks
      go_loopw [10, 52] (fun wv iv wr => ∃ (i : Nat) (ws : List Value), iv = .int .i64 (i : Int) ∧ i ≤ n ∧ WantAt wr w5.heap.size wv ws (groupsTo ks rows i) ∧ Fr (fun _ => False) w5 wr) (fun _ iv _ => n - (intOf iv).toNat)
      case atStart => exact ⟨0, [], rfl, Nat.zero_le _, ⟨rfl, World.ownsRow_nil _ _ _ _, fun i hi => absurd hi (Nat.not_lt_zero _), fun i j hi => absurd hi (Nat.not_lt_zero _)⟩, Fr.refl _ _⟩
      case round =>
        obtain ⟨i, ws, rfl, hi, hw, hf⟩ := hrel
        have HW := Lib.hid hw
        have HF := Lib.hid hf
        clear hw hf
        by_cases hlt : i < n
        · have hlt' : decide (i < n) = true := by simpa using hlt
          have hTw := HT5.out.fr HF.out (fun h => h)
          have F25 : Fr (fun _ => False) w2 wr := HF5.out.trans' HF.out
          have hRw := HR2.out.frF F25
          have hVw := ownsRow_fr HV2.out F25 (fun _ _ h => h)
          have hBw := ownsRow_fr HBR.out HF.out (fun _ _ h => h)
          have hown := hRw.own
          rw [HRL.out] at hown
          obtain ⟨ga, rfl, _, _, _⟩ := row_form hown (by omega)
          have h3i : (rows.getD i []).length = 3 := (HR3.out _ (getD_mem (by rw [HRL.out]; exact hlt))).1
          have ck : wr.cell? ⟨ga, i, none⟩ = some (rvals.getD i undef) := by
            rw [World.ownsRow.cellAt hown i (by omega), List.getD_eq_getElem?_getD, List.getElem?_eq_getElem (by have := hRw.len; rw [HRL.out] at this; omega)]; rfl
          have hek := hRw.each i (by rw [HRL.out]; exact hlt)
          obtain ⟨rg, rc, hvk⟩ := row_pos hek (by rw [h3i]; omega)
          rw [hvk] at ck hek
          rw [h3i] at ck hek
          have HXI := Lib.hid (show groupsTo ks rows (i + 1) = grow ks (groupsTo ks rows i) (rows.getD i []) from rfl)
          have HAP := Lib.hid (groupsTo_apart ks rows i)
          have HGO := Lib.hid (groupsTo_ok ks rows (fun r hr => (HR3.out r hr).1) i (by rw [HRL.out]; exact hi))
          generalize groupsTo ks rows i = gs at *
          generalize rows.getD i [] = xs at *
          obtain ⟨Aw, cw, hwv⟩ := row_shape HW.out.own
          subst hwv
          generalize hgl : gs.length = gn at *
          have HGL := Lib.hid hgl
          have HTW := Lib.hid hTw
          have HVW := Lib.hid hVw
          have HBW := Lib.hid hBw
          have HEK := Lib.hid hek
          have H3I := Lib.hid h3i
          have hgn : gn ≤ 8 := by have := HGO.out.1; omega
          clear hTw F25 hRw hVw hBw hown hek h3i hvk hgl
          go_wp2_with fail
          obtain ⟨wo, rfl⟩ : ∃ wo : World, wo = wr := ⟨wr, rfl⟩
          go_loopw [13, 58] (fun av iv wq => ∃ (q : Nat) (at_ : Int), iv = .int .i64 (q : Int) ∧ av = .int .i64 at_ ∧ q ≤ gn ∧ LastAt (fun j => alikeB ks xs ((gs.getD j []).headD [])) q at_ ∧ Fr (fun _ => False) wo wq) (fun _ iv _ => gn - (intOf iv).toNat)
          case atStart => exact ⟨0, -1, rfl, rfl, Nat.zero_le _, .inl ⟨rfl, fun j hj => absurd hj (Nat.not_lt_zero _)⟩, Fr.refl _ _⟩
          case round =>
            obtain ⟨q, at_, rfl, rfl, hq, hla, hfq⟩ := hrel
            obtain ⟨wq, rfl⟩ : ∃ wq : World, wq = wr := ⟨wr, rfl⟩
            have HLA := Lib.hid hla
            have HFQ := Lib.hid hfq
            clear hla hfq
            by_cases hqlt : q < gn
            · have hqlt' : decide (q < gn) = true := by simpa using hqlt
              have FQ5 : Fr (fun _ => False) w5 wq := HF.out.trans' HFQ.out
              have hWq := HW.out.frF HFQ.out
              have hwown := hWq.own
              rw [HGL.out] at hwown
              obtain ⟨og, rfl, _, _, _⟩ := row_form hwown (by omega)
              have wk : wq.cell? ⟨og, q, none⟩ = some (ws.getD q undef) := by
                rw [World.ownsRow.cellAt hwown q (by omega), List.getD_eq_getElem?_getD, List.getElem?_eq_getElem (by have := hWq.len; rw [HGL.out] at this; omega)]; rfl
              obtain ⟨hvals, hh1, hh2⟩ := hWq.each q (by rw [HGL.out]; exact hqlt)
              obtain ⟨hgpos, _, hg3⟩ := HGO.out.2 _ (getD_mem (l := gs) (i := q) (d := []) (by rw [HGL.out]; exact hqlt))
              obtain ⟨hg, hc, hwv2, h0⟩ := slice0 hh1 hgpos
              have hhe := hh2 0 hgpos
              have hhead : (gs.getD q []).headD [] = (gs.getD q []).getD 0 [] := by cases gs.getD q [] <;> rfl
              have hy3 : ((gs.getD q []).getD 0 []).length = 3 := hg3 _ (getD_mem hgpos)
              obtain ⟨yg, yc, hv0⟩ := row_pos hhe (by rw [hy3]; omega)
              rw [hwv2] at wk
              rw [hv0] at h0 hhe
              rw [hy3] at h0 hhe
              have HFE : (fun j => alikeB ks xs ((gs.getD j []).headD [])) q = alikeB ks xs ((gs.getD q []).getD 0 []) := by
                show alikeB ks xs ((gs.getD q []).headD []) = _
                rw [hhead]
              generalize (gs.getD q []).getD 0 [] = ys at *
              have hhn : (0 : Int) < ((gs.getD q []).length : Int) := by omega
              generalize (gs.getD q []).length = hn at *
              have HFEH := Lib.hid HFE
              have HWK := Lib.hid wk
              have HH0 := Lib.hid h0
              have HHE := Lib.hid hhe
              have HY3 := Lib.hid hy3
              clear hWq hwown hh1 hh2 hg3 hwv2 hhead hv0 HFE wk h0 hhe hy3
              go_wp2_with fail
              go_loopw [15, 63] (fun sv tv wz => ∃ t : Nat, tv = .int .i64 (t : Int) ∧ sv = .bool (!anyB (fun j => (ks.getD j default).val xs != (ks.getD j default).val ys) t) ∧ t ≤ m ∧ Fr (fun _ => False) wq wz) (fun _ tv _ => m - (intOf tv).toNat)
              case atStart => exact ⟨0, rfl, rfl, Nat.zero_le _, Fr.refl _ _⟩
              case round =>
                obtain ⟨t, rfl, rfl, ht, hfz⟩ := hrel
                obtain ⟨wz, rfl⟩ : ∃ wz : World, wz = wr := ⟨wr, rfl⟩
                have HFZ := Lib.hid hfz
                clear hfz
                by_cases htlt : t < m
                · have htlt' : decide (t < m) = true := by simpa using htlt
                  have F5Z : Fr (fun _ => False) w5 wz := FQ5.trans' HFZ.out
                  have FOZ : Fr (fun _ => False) wo wz := HFQ.out.trans' HFZ.out
                  have hbz := ownsRow_fr HBR.out F5Z (fun _ _ h => h)
                  rw [← HM.out] at hbz
                  have hbs := str_cell hbz t htlt
                  have e1 : (ks.map Key.v).getD t ByteArray.empty = (ks.getD t default).v := by
                    rw [List.getD_eq_getElem?_getD, List.getD_eq_getElem?_getD, List.getElem?_map, List.getElem?_eq_getElem (by rw [← HM.out]; exact htlt)]
                    rfl
                  rw [e1] at hbs
                  have hkt : IsVar (ks.getD t default).v (ks.getD t default).p (ks.getD t default).fnd := HKS.out _ (getD_mem (by rw [← HM.out]; exact htlt))
                  have hsucc := anyB_succ (fun j => (ks.getD j default).val xs != (ks.getD j default).val ys) t
                  have HA1 := Lib.hid (fun wy (hf : Fr (fun _ => False) wz wy) => value_any vg vc w1.heap.size 0 (ks.getD t default).p n c0 (some ⟨ga, 0, none⟩) (ks.getD t default).v (ks.getD t default).fnd (.slice (some ⟨rg, 0, none⟩) 3 rc) xs wy hkt H3I.out (ownsRow_fr HVW.out (FOZ.trans' hf) (fun _ _ h => h)) (ownsRow_base (HEK.out.fr (FOZ.trans' hf) (fun _ _ h => h)) (Nat.zero_le _)))
                  have HA2 := Lib.hid (fun wy (hf : Fr (fun _ => False) wz wy) => value_any vg vc w1.heap.size 0 (ks.getD t default).p n c0 (some ⟨ga, 0, none⟩) (ks.getD t default).v (ks.getD t default).fnd (.slice (some ⟨yg, 0, none⟩) 3 yc) ys wy hkt HY3.out (ownsRow_fr HVW.out (FOZ.trans' hf) (fun _ _ h => h)) (HHE.out.fr (HFZ.out.trans' hf) (fun _ _ h => h)))
                  have hval : ((ks.getD t default).val xs != (ks.getD t default).val ys) = (valN (ks.getD t default).p (ks.getD t default).fnd xs != valN (ks.getD t default).p (ks.getD t default).fnd ys) := rfl
                  have HTZ := Lib.hid (HTW.out.fr FOZ (fun h => h))
                  have HSZ := Lib.hid (fun wy (hf : Fr (fun _ => False) wz wy) => (⟨(HTZ.out.fr hf (fun h => h)).cell 0, (HTZ.out.fr hf (fun h => h)).cell 1, cell_fr (HFZ.out.trans' hf) HWK.out, cell_fr (HFZ.out.trans' hf) HH0.out⟩ : wy.cell? ⟨w2.heap.size, 0, none⟩ = some (.slice (some ⟨vg, 0, none⟩) 3 vc) ∧ wy.cell? ⟨w2.heap.size, 1, none⟩ = some (.slice (some ⟨ga, 0, none⟩) n c0) ∧ wy.cell? ⟨og, q, none⟩ = some (.slice (some ⟨hg, 0, none⟩) hn hc) ∧ wy.cell? ⟨hg, 0, none⟩ = some (.slice (some ⟨yg, 0, none⟩) 3 yc)))
                  have htn : ∀ b : Bool, anyB (fun j => (ks.getD j default).val xs != (ks.getD j default).val ys) t = b → anyB (fun j => (ks.getD j default).val xs != (ks.getD j default).val ys) (t + 1) = (b || (valN (ks.getD t default).p (ks.getD t default).fnd xs != valN (ks.getD t default).p (ks.getD t default).fnd ys)) := fun b hb => by rw [hsucc, hb]; rfl
                  have HTN := Lib.hid htn
                  clear F5Z FOZ hbz e1 hkt hsucc hval htn
                  generalize valN (ks.getD t default).p (ks.getD t default).fnd xs = a1 at *
                  generalize valN (ks.getD t default).p (ks.getD t default).fnd ys = a2 at *
                  generalize (ks.getD t default).v = kv at *
                  cases hb : anyB (fun j => (ks.getD j default).val xs != (ks.getD j default).val ys) t with
                  | true =>
                    have HNX := Lib.hid (HTN.out true hb)
                    clear hb
                    go_wp2_with fail
                    go_quiet (fail)
                    go_wp2_with fail
                    go_roundw
                    case rel => exact ⟨t + 1, by go_num, by rw [HNX.out]; rfl, by omega, HFZ.out.drewN _⟩
                    case measure => simp [intOf]; omega
                  | false =>
                    have HNX := Lib.hid (HTN.out false hb)
                    clear hb
                    go_wp2_with fail
                    go_region_held3 (fun w' => w'.cell? ⟨w2.heap.size, 0, none⟩ = some (.slice (some ⟨vg, 0, none⟩) 3 vc) ∧ w'.cell? ⟨w2.heap.size, 1, none⟩ = some (.slice (some ⟨ga, 0, none⟩) n c0) ∧ w'.cell? ⟨og, q, none⟩ = some (.slice (some ⟨hg, 0, none⟩) hn hc) ∧ w'.cell? ⟨hg, 0, none⟩ = some (.slice (some ⟨yg, 0, none⟩) 3 yc))
                      (first | exact HSZ.out _ F2 | exact HSZ.out _ F1 | exact HSZ.out _ (Fr.refl _ _).drew)
                      ((go_at_call 11; first
                        | ((with_reducible refine (HA1.out _ F1).mono ?_); rintro e w2' ⟨rfl, hf2⟩; have F2 : Fr (fun _ => False) wz w2' := F1.trans' hf2)
                        | ((with_reducible refine (HA2.out _ F1).mono ?_); rintro e w2' ⟨rfl, hf2⟩; have F2 : Fr (fun _ => False) wz w2' := F1.trans' hf2)
                        | ((with_reducible refine (HA1.out _ ((Fr.refl _ _).drew)).mono ?_); rintro e w1' ⟨rfl, hf1⟩; have F1 : Fr (fun _ => False) wz w1' := ((Fr.refl _ _).drew).trans' hf1)
                        | ((with_reducible refine (HA2.out _ ((Fr.refl _ _).drew)).mono ?_); rintro e w1' ⟨rfl, hf1⟩; have F1 : Fr (fun _ => False) wz w1' := ((Fr.refl _ _).drew).trans' hf1)))
                    go_wp2_with fail
                    go_roundw
                    case rel => exact ⟨t + 1, by go_num, by rw [HNX.out]; simp [bne], by omega, HFZ.out.trans' F2⟩
                    case measure => simp [intOf]; omega
                · have htlt' : decide (t < m) = false := by simpa using htlt
                  have htm : t = m := by omega
                  subst htm
                  have hal := alike_any ks xs ys
                  rw [← HM.out] at hal
                  have HFN := Lib.hid (HFQ.out.trans' HFZ.out)
                  cases hb : anyB (fun j => (ks.getD j default).val xs != (ks.getD j default).val ys) t with
                  | true =>
                    rw [hb] at hal
                    have HAL := Lib.hid (HFEH.out.trans hal)
                    clear hb hal
                    go_wp2_with fail
                    go_roundw
                    case rel => exact ⟨q + 1, at_, by go_num, rfl, by omega, HLA.out.no HAL.out, HFN.out⟩
                    case measure => simp [intOf]; omega
                  | false =>
                    rw [hb] at hal
                    have HAL := Lib.hid (HFEH.out.trans hal)
                    clear hb hal
                    go_wp2_with fail
                    go_roundw
                    case rel => exact ⟨q + 1, q, by go_num, rfl, by omega, HLA.out.yes HAL.out (fun j hj => others_false HAP.out (i := q) (by rw [HGL.out]; exact hqlt) (by rw [HGL.out]; omega) (by omega) HAL.out), HFN.out⟩
                    case measure => simp [intOf]; omega
            · have hqlt' : decide (q < gn) = false := by simpa using hqlt
              have hqe : q = gn := by omega
              subst hqe
              have hWq := HW.out.frF HFQ.out
              have HROW := Lib.hid (show IntRow wq 0 (.slice (some ⟨rg, 0, none⟩) 3 rc) xs from ownsRow_base (HEK.out.fr HFQ.out (fun _ _ h => h)) (Nat.zero_le _))
              have hsz5 : w5.heap.size ≤ wq.heap.size := (HF.out.trans' HFQ.out).size
              have HG8A := Lib.hid (fun k (hk : k < gs.length) => Nat.le_trans (HGO.out.2 _ (getD_mem (d := []) hk)).2.1 (show i ≤ 8 by omega))
              have HF5A := Lib.hid (HF.out.trans' HFQ.out)
              rcases HLA.out with ⟨rfl, hno⟩ | ⟨k, rfl, hkq, hkt, hku⟩
              · rw [grow_none (by rw [HGL.out]; exact hno)] at HXI
                have HWQ := Lib.hid hWq
                have hown4 := hWq.own
                rw [HGL.out] at hown4
                obtain ⟨k, rfl⟩ : ∃ k, k = q := ⟨q, rfl⟩
                have HOWN4 := Lib.hid hown4
                clear hno hWq
                go_wp2_with (first
                  | (at_builtin; refine wpList_append_own_at _ rfl _ _ 47 rfl w5.heap.size 27 i27 _ 1 24 Tryz.underlying47 hi27 hz270 hz271 hz272 rfl (by decide) _ k ws (by rfl) (HOWN4.out.alloc _) ⟨wq.heap.size, 0, none⟩ 1 1 [.slice none 0 0] (by rfl) rfl (World.news_of_block (heap_alloc_new wq _)) (by intro u hu; rw [List.mem_singleton] at hu; rw [hu]; rfl) (by unfold maxLen; omega) (by omega) (by simp; omega) ?_; intro v4 w4 hown4' hgr4 _ hat4; obtain ⟨og, oc', hv4⟩ := row_pos hown4' (by omega); subst hv4; have hob4 := HOWN4.out; have hp4 := HWQ.out.new _ (by rw [HGL.out]; exact hown4') hgr4; have F4 : Fr (fun j => (Value.slice Aw k cw).ownBlock = some j) wq w4 := ((Fr.refl _ _).alloc _).trans (Fr.of_grown hgr4) (fun _ _ h => h); have HROW4 := Lib.hid (HROW.out.fr F4 (fun j hj h => row_row_ne hob4 HROW.out (by decide) h hj)); have HF5X := Lib.hid (HF5A.out.trans F4 (fun j hj h => absurd (hob4.lt j h).1 (by omega))); have hsz5b : w5.heap.size ≤ w4.heap.size := (Nat.le_trans hsz5 F4.size); have HG8 := Lib.hid (show ∀ j, j < (gs ++ [[]]).length → ((gs ++ [[]]).getD j []).length ≤ 8 from fun j hj => (by rw [List.length_append, List.length_singleton, HGL.out] at hj; by_cases e : j < k; rw [(getD_app (x := [])).1 j (by rw [HGL.out]; exact e)]; exact HG8A.out j (by rw [HGL.out]; exact e); rw [show j = gs.length by rw [HGL.out]; omega, getD_app.2]; exact Nat.zero_le 8)); have HXI2 := Lib.hid (show groupsTo ks rows (i + 1) = (gs ++ [[]]).set k ((gs ++ [[]]).getD k [] ++ [xs]) from (by rw [HXI.out, ← HGL.out, getD_app.2, List.nil_append, List.set_append_right _ _ (Nat.le_refl _), Nat.sub_self]; rfl)); have hgx : (gs ++ [[]]).length = k + 1 := (by rw [List.length_append, HGL.out]; rfl); have hkl : k < (gs ++ [[]]).length := (by rw [hgx]; omega); clear HXI HG8A HROW HF5A; have HXI := HXI2; have HROW := HROW4; clear HXI2 HROW4; generalize gs ++ [[]] = gs' at *; generalize ws ++ [Value.slice none 0 0] = ws' at *; have HGX := Lib.hid hgx; have hWx := hp4; clear hgx hown4' hgr4 hat4 F4 hob4 hp4; obtain ⟨valsk, hk1, hk2⟩ := hWx.each k hkl; obtain ⟨Ak, ck, hvk'⟩ := row_shape hk1; have hownx := hWx.own; rw [HGX.out] at hownx; have hcell : (w4).cell? ⟨og, k, none⟩ = some (ws'.getD k undef) := (by rw [World.ownsRow.cellAt hownx k (by omega), List.getD_eq_getElem?_getD, List.getElem?_eq_getElem (by have := hWx.len; rw [HGX.out] at this; omega)]; rfl); rw [hvk'] at hcell hk1; have hfz := hownx.frozenAt k; have hogl := (hownx.lt og rfl).2; have HWX := Lib.hid hWx; have HK1 := Lib.hid hk1; have HK2 := Lib.hid hk2; have HVK := Lib.hid hvk'; have HOWNX := Lib.hid hownx; have HNE := Lib.hid (show (Value.slice Ak (gs'.getD k []).length ck).ownBlock ≠ some og from fun e => row_row_ne hk1 hownx (by decide) e rfl); have hkk : (k : Int) < (k : Int) + 1 := (by omega); have hnk8 := HG8.out k hkl; generalize hgkl : (gs'.getD k []).length = nk at *; have HGKL := Lib.hid hgkl; have HKL := Lib.hid hkl; clear hWx hk1 hk2 hvk' hownx hgkl)
                  | (at_builtin; refine wpList_append_own_at _ rfl _ _ 27 rfl w5.heap.size 48 i48 _ 1 24 Tryz.underlying27 hi48 hz480 hz481 hz482 rfl (by decide) _ nk valsk (by rfl) (HK1.out.alloc _) ⟨(w4).heap.size, 0, none⟩ 1 1 [.slice (some ⟨rg, 0, none⟩) 3 rc] (by rfl) rfl (World.news_of_block (heap_alloc_new (w4) _)) (by intro u hu; rw [List.mem_singleton] at hu; rw [hu]; rfl) (by unfold maxLen; omega) (by omega) (by simp; omega) ?_; intro v6 w6 hown6 hgr6 _ hat6; obtain ⟨A6, c6, hv6⟩ := row_shape hown6; subst hv6; have F6 : Fr (fun j => (Value.slice Ak nk ck).ownBlock = some j) (w4) w6 := ((Fr.refl _ _).alloc _).trans (Fr.of_grown hgr6) (fun _ _ h => h); have hb6 := ownsRow_fr HOWNX.out F6 (fun j hj h => HNE.out (by rw [h]; exact hj.symm ▸ rfl)); have c6k : w6.cell? ⟨og, k, none⟩ = some (.slice Ak nk ck) := (cell_frS F6 HNE.out hcell); have f6k := hb6.frozenAt k; have h6l := (hb6.lt og rfl).2; clear hcell hfz))
                have HFIN := Lib.hid (HWX.out.put (by first | exact HKL.out | (rw [HGX.out]; exact HKL.out)) (by rw [HVK.out, HGKL.out]; exact HK1.out) (by rw [HGKL.out]; exact HK2.out) HROW.out _ (by rw [HGKL.out]; exact hown6) (by rw [HVK.out]; exact hgr6) (by rw [HVK.out]; exact hat6))
                have F7 : Fr (fun j => (Value.slice Ak nk ck).ownBlock = some j ∨ j = og) (w4) (w6.setCell ⟨og, k, none⟩ (.slice A6 (nk + 1) c6)) := (F6.mono (fun _ _ h => .inl h)).setCell ⟨og, k, none⟩ (fun _ => .inr rfl) _
                have hk1l := fun j h => (HK1.out.lt j h).1
                have hogl1 := (HOWNX.out.lt og rfl).1
                have HFRX := Lib.hid (HF5X.out.trans F7 (fun j hj h => by rcases h with h | h; exact absurd (hk1l j h) (by omega); omega))
                clear hown6 hgr6 hat6 F6 F7 hb6 c6k f6k hk1l
                go_wp2_with fail
                go_roundw
                case rel => exact ⟨i + 1, _, by go_num, by omega, by rw [HXI.out]; exact HFIN.out, HFRX.out⟩
                case measure => simp [intOf]; omega
              · rw [grow_some (by rw [HGL.out]; exact hkq) hkt (fun j hj => hku j (by omega) (by omega))] at HXI
                have hown4 := hWq.own
                rw [HGL.out] at hown4
                obtain ⟨og, hA, _, _, _⟩ := row_form hown4 (by omega)
                subst hA
                obtain ⟨gs', hgs⟩ : ∃ gs', gs' = gs := ⟨gs, rfl⟩
                obtain ⟨ws', hws⟩ : ∃ ws', ws' = ws := ⟨ws, rfl⟩
                rw [← hgs, ← hws] at hWq
                rw [← hgs] at HXI
                have hWx := hWq
                have HGX := Lib.hid (show gs'.length = q by rw [hgs]; exact HGL.out)
                have hkl : k < gs'.length := by rw [HGX.out]; exact hkq
                have HG8 := Lib.hid (show ∀ k, k < gs'.length → (gs'.getD k []).length ≤ 8 by rw [hgs]; exact HG8A.out)
                have HF5X := HF5A
                clear hkt hku hWq hgs hws
                obtain ⟨valsk, hk1, hk2⟩ := hWx.each k hkl
                obtain ⟨Ak, ck, hvk'⟩ := row_shape hk1
                have hownx := hWx.own
                rw [HGX.out] at hownx
                have hcell : (wq).cell? ⟨og, k, none⟩ = some (ws'.getD k undef) := (by rw [World.ownsRow.cellAt hownx k (by omega), List.getD_eq_getElem?_getD, List.getElem?_eq_getElem (by have := hWx.len; rw [HGX.out] at this; omega)]; rfl)
                rw [hvk'] at hcell hk1
                have hfz := hownx.frozenAt k
                have hogl := (hownx.lt og rfl).2
                have HWX := Lib.hid hWx
                have HK1 := Lib.hid hk1
                have HK2 := Lib.hid hk2
                have HVK := Lib.hid hvk'
                have HOWNX := Lib.hid hownx
                have HNE := Lib.hid (show (Value.slice Ak (gs'.getD k []).length ck).ownBlock ≠ some og from fun e => row_row_ne hk1 hownx (by decide) e rfl)
                have hkk : (k : Int) < (q : Int) := (by omega)
                have hnk8 := HG8.out k hkl
                generalize hgkl : (gs'.getD k []).length = nk at *
                have HGKL := Lib.hid hgkl
                have HKL := Lib.hid hkl
                clear hWx hk1 hk2 hvk' hownx hgkl
                go_wp2_with (at_builtin; refine wpList_append_own_at _ rfl _ _ 27 rfl w5.heap.size 48 i48 _ 1 24 Tryz.underlying27 hi48 hz480 hz481 hz482 rfl (by decide) _ nk valsk (by rfl) (HK1.out.alloc _) ⟨(wq).heap.size, 0, none⟩ 1 1 [.slice (some ⟨rg, 0, none⟩) 3 rc] (by rfl) rfl (World.news_of_block (heap_alloc_new (wq) _)) (by intro u hu; rw [List.mem_singleton] at hu; rw [hu]; rfl) (by unfold maxLen; omega) (by omega) (by simp; omega) ?_; intro v6 w6 hown6 hgr6 _ hat6; obtain ⟨A6, c6, hv6⟩ := row_shape hown6; subst hv6; have F6 : Fr (fun j => (Value.slice Ak nk ck).ownBlock = some j) (wq) w6 := ((Fr.refl _ _).alloc _).trans (Fr.of_grown hgr6) (fun _ _ h => h); have hb6 := ownsRow_fr HOWNX.out F6 (fun j hj h => HNE.out (by rw [h]; exact hj.symm ▸ rfl)); have c6k : w6.cell? ⟨og, k, none⟩ = some (.slice Ak nk ck) := (cell_frS F6 HNE.out hcell); have f6k := hb6.frozenAt k; have h6l := (hb6.lt og rfl).2; clear hcell hfz)
                have HFIN := Lib.hid (HWX.out.put (by first | exact HKL.out | (rw [HGX.out]; exact HKL.out)) (by rw [HVK.out, HGKL.out]; exact HK1.out) (by rw [HGKL.out]; exact HK2.out) HROW.out _ (by rw [HGKL.out]; exact hown6) (by rw [HVK.out]; exact hgr6) (by rw [HVK.out]; exact hat6))
                have F7 : Fr (fun j => (Value.slice Ak nk ck).ownBlock = some j ∨ j = og) (wq) (w6.setCell ⟨og, k, none⟩ (.slice A6 (nk + 1) c6)) := (F6.mono (fun _ _ h => .inl h)).setCell ⟨og, k, none⟩ (fun _ => .inr rfl) _
                have hk1l := fun j h => (HK1.out.lt j h).1
                have hogl1 := (HOWNX.out.lt og rfl).1
                have HFRX := Lib.hid (HF5X.out.trans F7 (fun j hj h => by rcases h with h | h; exact absurd (hk1l j h) (by omega); omega))
                clear hown6 hgr6 hat6 F6 F7 hb6 c6k f6k hk1l
                go_wp2_with fail
                go_roundw
                case rel => exact ⟨i + 1, _, by go_num, by omega, by rw [HXI.out]; exact HFIN.out, HFRX.out⟩
                case measure => simp [intOf]; omega
        · have hlt' : decide (i < n) = false := by simpa using hlt
          have hin : i = n := by omega
          subst hin
          have hGR := groups_any vg vc g m 0 w1.heap.size w1.heap.size (.slice A0 i c0) rvals rows ks wr HKS.out (by rw [← HM.out]; omega) (by rw [← HM.out]; omega) (by rw [HRL.out]; exact hn8) (fun r hr => (HR3.out r hr).1) (ownsRow_fr HBR.out HF.out (fun _ _ h => h)) (ownsRow_fr HV2.out (HF5.out.trans' HF.out) (fun _ _ h => h)) (HR2.out.frF (HF5.out.trans' HF.out))
          rw [← HM.out] at hGR
          have HGR := Lib.hid hGR
          have HTR := Lib.hid (HT5.out.fr HF.out (fun h => h))
          have t0 : wr.cell? ⟨w2.heap.size, 0, none⟩ = some (.slice (some ⟨vg, 0, none⟩) 3 vc) := HTR.out.cell 0
          have t1 : wr.cell? ⟨w2.heap.size, 1, none⟩ = some (.slice A0 i c0) := HTR.out.cell 1
          have HGOK := Lib.hid (groupsTo_ok ks rows (fun r hr => (HR3.out r hr).1) i (by rw [HRL.out]; exact Nat.le_refl _))
          have HGIN := Lib.hid (groupsTo_mem ks rows i (by rw [HRL.out]; exact Nat.le_refl _))
          clear hGR
          go_wp2_with fail
          refine HGR.out.mono ?_
          rintro e w6 ⟨gv, ps, rfl, hgv6, hf6⟩
          rw [HRL.out] at hgv6
          have HGRP := Lib.hid hgv6
          have HWANT := Lib.hid (HW.out.frF hf6)
          have HT6 := Lib.hid (HTR.out.fr hf6 (fun h => h))
          have HV6 := Lib.hid (ownsRow_fr HV2.out ((HF5.out.trans' HF.out).trans' hf6) (fun _ _ h => h))
          have HFR6 := Lib.hid (((HF2.out.trans' HF5.out).trans' HF.out).trans' hf6)
          have HGS := Lib.hid (show ∀ g, g ∈ groupsTo ks rows i → g.length ≤ 8 ∧ ∀ r, r ∈ g → r.length = 3 ∧ ∀ x, x ∈ r → -1 ≤ x from fun g hg => ⟨by have := (HGOK.out.2 g hg).2.1; omega, fun r hr => HR3.out r (HGIN.out g hg r hr)⟩)
          have hgs8 : (groupsTo ks rows i).length ≤ 8 := by have := HGOK.out.1; omega
          generalize groupsTo ks rows i = gs at *
          clear hgv6 hf6 t0 t1
          obtain ⟨Ag, cg, hgv⟩ := row_shape HGRP.out.own
          subst hgv
          obtain ⟨Aw3, cw3, hwv⟩ := row_shape HWANT.out.own
          subst hwv
          generalize hgl : gs.length = gn at *
          have HGL := Lib.hid hgl
          clear hgl
          go_wp2_with fail
          go_loopw [116] (fun iv wr => ∃ i : Nat, iv = .int .i64 (i : Int) ∧ i ≤ gn ∧ Fr (fun _ => False) w6 wr) (fun iv _ => gn - (intOf iv).toNat)
          case atStart => exact ⟨0, rfl, Nat.zero_le _, Fr.refl _ _⟩
          case round =>
            obtain ⟨i, rfl, hi, hfi⟩ := hrel
            obtain ⟨wi, rfl⟩ : ∃ wi : World, wi = wr := ⟨wr, rfl⟩
            have HFI := Lib.hid hfi
            clear hfi
            by_cases hil : i < gn
            · have hil' : decide (i < gn) = true := by simpa using hil
              have hil2 : (i : Int) < (gn : Int) := by omega
              have hilg : i < gs.length := by rw [HGL.out]; exact hil
              have hg6 := HGRP.out.frF HFI.out
              have hw6 := HWANT.out.frF HFI.out
              have hgo := hg6.own
              rw [HGL.out] at hgo
              obtain ⟨og, rfl, _, _, _⟩ := row_form hgo (by omega)
              have hwo := hw6.own
              rw [HGL.out] at hwo
              obtain ⟨wg, rfl, _, _, _⟩ := row_form hwo (by omega)
              obtain ⟨p1, p2⟩ := pairs_at ps i (by rw [hg6.len]; exact hilg)
              have c0 := World.ownsRow.cellAt hgo (i * 2) (by omega) |>.trans p1
              have c1 := World.ownsRow.cellAt hgo (i * 2 + 1) (by omega) |>.trans p2
              have wk : wi.cell? ⟨wg, i, none⟩ = some (ws.getD i undef) := by
                rw [World.ownsRow.cellAt hwo i (by omega), List.getD_eq_getElem?_getD, List.getElem?_eq_getElem (by have := hw6.len; rw [HGL.out] at this; omega)]; rfl
              have hgi := hg6.each i hilg
              obtain ⟨pv, pc, hp1⟩ := hgi.vars
              obtain ⟨gvals, hgr⟩ := hgi.rows
              obtain ⟨wvals, hw1, hw2⟩ := hw6.each i hilg
              obtain ⟨Ap, cp, hp2⟩ := row_shape hgr.own
              obtain ⟨Aw2, cw2, hwv2⟩ := row_shape hw1
              have hgst := hgi.strs
              obtain ⟨hgm, hg3⟩ := HGS.out _ (getD_mem (l := gs) (d := []) hilg)
              rw [hp1] at c0 hgst
              rw [hp2] at c1 hgr
              rw [hwv2] at wk hw1
              have hgil : ∀ j, j < (gs.getD i []).length → ((gs.getD i []).getD j []).length = 3 := fun j hj => (hg3 _ (getD_mem hj)).1
              have hgim : ∀ j, j < (gs.getD i []).length → ∀ k, k < 3 → -1 ≤ ((gs.getD i []).getD j []).getD k 0 := fun j hj k hk => (hg3 _ (getD_mem hj)).2 _ (getD_mem (by rw [hgil j hj]; exact hk))
              generalize gs.getD i [] = gr at *
              generalize hgrl : gr.length = gl at *
              have HGRL := Lib.hid hgrl
              have HG := Lib.hid hgr
              have HW1 := Lib.hid hw1
              have HW2 := Lib.hid hw2
              have HST := Lib.hid hgst
              have HGIL := Lib.hid hgil
              have HTI := Lib.hid (HT6.out.fr HFI.out (fun h => h))
              have HVI := Lib.hid (ownsRow_fr HV6.out HFI.out (fun _ _ h => h))
              have HGD := Lib.hid (fun wy (hf : Fr (fun _ => False) wi wy) => tabGood_any pv pc _ _ _ gvals gr wy (by rw [HGRL.out]; omega) (by rw [HGRL.out]; exact hgil) (by rw [HGRL.out]; exact hgim) (hgr.frF hf) (ownsRow_fr hgst hf (fun _ _ h => h)))
              have hbx := Blk.new wi 29 #[.slice (some ⟨pv, 0, none⟩) 3 pc, .slice Ap gl cp]
              have HBX := Lib.hid hbx
              have HCX := Lib.hid (fun wy (hf : Fr (fun _ => False) (wi.alloc (.cells #[.slice (some ⟨pv, 0, none⟩) 3 pc, .slice Ap gl cp] 29)) wy) => (⟨(hbx.fr hf (fun h => h)).cell 0, (hbx.fr hf (fun h => h)).cell 1, cell_fr (((Fr.refl _ _).alloc _).trans' hf) wk, (HTI.out.fr (((Fr.refl _ _).alloc _).trans' hf) (fun h => h)).cell 0⟩ : wy.cell? ⟨wi.heap.size, 0, none⟩ = some (.slice (some ⟨pv, 0, none⟩) 3 pc) ∧ wy.cell? ⟨wi.heap.size, 1, none⟩ = some (.slice Ap gl cp) ∧ wy.cell? ⟨wg, i, none⟩ = some (.slice Aw2 gl cw2) ∧ wy.cell? ⟨w2.heap.size, 0, none⟩ = some (.slice (some ⟨vg, 0, none⟩) 3 vc)))
              clear hg6 hw6 hgo hwo p1 p2 hgi hgr hw1 hw2 hgst hgil hgim hg3 hp1 hp2 hwv2 hgrl hbx wk
              go_wp2_with fail
              go_region_held3 (fun w' => w'.cell? ⟨wi.heap.size, 0, none⟩ = some (.slice (some ⟨pv, 0, none⟩) 3 pc) ∧ w'.cell? ⟨wi.heap.size, 1, none⟩ = some (.slice Ap gl cp) ∧ w'.cell? ⟨wg, i, none⟩ = some (.slice Aw2 gl cw2) ∧ w'.cell? ⟨w2.heap.size, 0, none⟩ = some (.slice (some ⟨vg, 0, none⟩) 3 vc))
                (first | exact HCX.out _ F1 | exact HCX.out _ (Fr.refl _ _).drew)
                ((go_at_call 13; (with_reducible refine (HGD.out _ (((Fr.refl _ _).alloc _).drew)).mono ?_); rintro e w1' ⟨rfl, hf1⟩; have F1 : Fr (fun _ => False) (wi.alloc (.cells #[.slice (some ⟨pv, 0, none⟩) 3 pc, .slice Ap gl cp] 29)) w1' := ((Fr.refl _ _).drew).trans' hf1))
              have hcx := HCX.out _ F1
              have b1 := hcx.2.1
              clear hcx
              go_wp2_with fail
              have HF1I := Lib.hid (show Fr (fun _ => False) wi w1' from ((Fr.refl _ _).alloc _).trans' F1)
              have HCX1 := Lib.hid (fun wy (hf : Fr (fun _ => False) w1' wy) => HCX.out wy (F1.trans' hf))
              clear F1 b1 hf1
              go_loopw [147] (fun jv wr => ∃ j : Nat, jv = .int .i64 (j : Int) ∧ j ≤ gl ∧ Fr (fun _ => False) w1' wr) (fun jv _ => gl - (intOf jv).toNat)
              case atStart => exact ⟨0, rfl, Nat.zero_le _, Fr.refl _ _⟩
              case round =>
                obtain ⟨j, rfl, hj, hfj⟩ := hrel
                obtain ⟨wj, rfl⟩ : ∃ wj : World, wj = wr := ⟨wr, rfl⟩
                have HFJ := Lib.hid hfj
                clear hfj
                by_cases hjl : j < gl
                · have hjl' : decide (j < gl) = true := by simpa using hjl
                  have hjl2 : (j : Int) < (gl : Int) := by omega
                  have FIJ : Fr (fun _ => False) wi wj := HF1I.out.trans' HFJ.out
                  have hgj := HG.out.frF FIJ
                  have hgo := hgj.own
                  rw [HGRL.out] at hgo
                  obtain ⟨ag, rfl, _, _, _⟩ := row_form hgo (by omega)
                  have ak : wj.cell? ⟨ag, j, none⟩ = some (gvals.getD j undef) := by
                    rw [World.ownsRow.cellAt hgo j (by omega), List.getD_eq_getElem?_getD, List.getElem?_eq_getElem (by have := hgj.len; rw [HGRL.out] at this; omega)]; rfl
                  have hei := hgj.each j (by rw [HGRL.out]; exact hjl)
                  have hl3 := HGIL.out j hjl
                  obtain ⟨eg, ec, hve⟩ := row_pos hei (by rw [hl3]; omega)
                  have hw1j := ownsRow_fr HW1.out FIJ (fun _ _ h => h)
                  obtain ⟨bg, rfl, _, _, _⟩ := row_form hw1j (by omega)
                  have bk : wj.cell? ⟨bg, j, none⟩ = some (wvals.getD j undef) := by
                    rw [World.ownsRow.cellAt hw1j j (by omega), List.getD_eq_getElem?_getD, List.getElem?_eq_getElem (by have := hw1j.1; omega)]; rfl
                  have hfi2 := (HW2.out j hjl).fr FIJ (fun _ _ h => h)
                  obtain ⟨fg, fc, hvf⟩ := row_pos hfi2 (by rw [hl3]; omega)
                  rw [hve] at ak hei
                  rw [hvf] at bk hfi2
                  rw [hl3] at ak hei bk hfi2
                  generalize gr.getD j [] = ex at *
                  have HEI := Lib.hid hei
                  have HFI2 := Lib.hid hfi2
                  have HAK := Lib.hid ak
                  have HBK := Lib.hid bk
                  have HL3 := Lib.hid hl3
                  have hcx := HCX1.out _ HFJ.out
                  have HFIJ := Lib.hid FIJ
                  clear FIJ hgj hgo hei hl3 hw1j hfi2 hve hvf bk
                  go_wp2_with fail
                  clear hcx ak
                  go_loopw [154] (fun kv wr => ∃ k : Nat, kv = .int .i64 (k : Int) ∧ k ≤ 3 ∧ Fr (fun _ => False) wj wr) (fun kv _ => 3 - (intOf kv).toNat)
                  case atStart => exact ⟨0, rfl, Nat.zero_le _, Fr.refl _ _⟩
                  case round =>
                    obtain ⟨k, rfl, hk, hfk⟩ := hrel
                    have HFK := Lib.hid hfk
                    by_cases hkl : k < 3
                    · have hkl' : (k : Int) < 3 := by omega
                      obtain ⟨x0, x1, x2, x3⟩ := HCX1.out _ (HFJ.out.trans' hfk)
                      have FK := HFIJ.out.trans' hfk
                      have x4 := str_cell (ownsRow_fr HST.out FK (fun _ _ h => h)) k hkl
                      have x5 : wr.cell? ⟨vg, k, none⟩ = some (.string (abc.getD k ByteArray.empty)) := str_cell (ownsRow_fr HVI.out FK (fun _ _ h => h)) k hkl
                      have x6 := int_cell (HEI.out.fr hfk (fun _ _ h => h)) k (by rw [HL3.out]; exact hkl)
                      have x7 := int_cell (HFI2.out.fr hfk (fun _ _ h => h)) k (by rw [HL3.out]; exact hkl)
                      have x8 := cell_fr hfk HBK.out
                      generalize abc.getD k ByteArray.empty = sx at *
                      generalize ex.getD k 0 = ix at *
                      obtain ⟨sy, hsy⟩ : ∃ sy, sy = sx := ⟨sx, rfl⟩
                      obtain ⟨iy, hiy⟩ : ∃ iy, iy = ix := ⟨ix, rfl⟩
                      have hne : (sx.toList != sy.toList) = false := by rw [hsy]; simp
                      have hne2 : (sx.toList == sy.toList) = true := by rw [hsy]; simp
                      have hni : (ix != iy) = false := by rw [hiy]; simp
                      have hni2 : (ix == iy) = true := by rw [hiy]; simp
                      rw [← hsy] at x5
                      rw [← hiy] at x7
                      clear hsy hiy
                      clear hfk FK
                      go_wp2_with fail
                      go_quiet (fail)
                      go_wp2_with fail
                      go_roundw
                      case rel => exact ⟨k + 1, by go_num, by omega, HFK.out.drewN _⟩
                      case measure => simp [intOf]; omega
                    · have hkl' : ¬ (k : Int) < 3 := by omega
                      clear hfk
                      go_wp2_with fail
                      go_roundw
                      case rel => exact ⟨j + 1, by go_num, by omega, HFJ.out.trans' HFK.out⟩
                      case measure => simp [intOf]; omega
                · have hjl' : decide (j < gl) = false := by simpa using hjl
                  go_wp2_with fail
                  go_roundw
                  case rel => exact ⟨i + 1, by go_num, by omega, (HFI.out.trans' HF1I.out).trans' HFJ.out⟩
                  case measure => simp [intOf]; omega
            · have hil' : decide (i < gn) = false := by simpa using hil
              go_wp2_with fail
              go_ret
              exact ⟨rfl, HFR6.out.trans' HFI.out⟩

end Go.Proofs.YtflhmieeidnpgaaGreatDoor
