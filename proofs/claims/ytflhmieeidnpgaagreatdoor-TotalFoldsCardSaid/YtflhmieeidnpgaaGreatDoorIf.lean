/- The document's numbers: sizes, plus, minus: walked. -/
import Derived.Test.YtflhmieeidnpgaaGreatDoorId
import Derived.Deep.CutBlock
import Derived.Deep.RegionLawGrows
import Derived.Deep.Cut
import Derived.Deep.CutRange
import Derived.WalkKit
import Derived.WalkLawsBesides
import Derived.WalkSpells
import Derived.Deep.QuietTactic
import Derived.BigRegion
import Derived.BigQuiet
import Derived.Lib.Hide
import Derived.Outline
import Derived.Deep.AppendLies
import Derived.Deep.RegionLaw
import Derived.Deep.RegionWith
import Derived.Deep.RegionHeld3
import Derived.Deep.LoopGhost
import Derived.Deep.DeepFit
import Derived.Laws.ResultCell
import Derived.Laws.RangeAny
import Derived.Deep.MidRow
import Derived.StillTailTactics
import Derived.OpenShut
namespace Go.Proofs.YtflhmieeidnpgaaGreatDoor
set_option linter.unusedVariables false
open Go.RowKit Go


set_option maxRecDepth 100000 in
set_option maxHeartbeats 4000000 in
theorem sizes_any (B B' : Nat) (v v' : Value) (a b : List Nat) (w : World) (hla : a.length ≤ 4096) (hlb : b.length ≤ 4096) (ha : DRow w B v a) (hb : DRow w B' v' b) (hda : ∀ d, d ∈ a → d < 10) (hdb : ∀ d, d ∈ b → d < 10)
    (hlt : a.length < b.length → dval a < dval b) (hgt : b.length < a.length → dval b < dval a) :
    Calls Tryz.prog 72 #[v, v'] w fun e w' => e = .returned (.int .i64 (cmpD (dval a) (dval b))) ∧ Fr (fun _ => False) w w' := by
  obtain ⟨A, c, rfl⟩ := row_shape ha
  obtain ⟨A', c', rfl⟩ := row_shape hb
  have HA := Lib.hid ha
  have HB := Lib.hid hb
  have HDA := Lib.hid hda
  have HDB := Lib.hid hdb
  clear ha hb hda hdb
  by_cases hne : a.length = b.length
  · obtain ⟨n, hn⟩ : ∃ n, a.length = n := ⟨_, rfl⟩
    have HN := Lib.hid hn
    have HNB := Lib.hid (show b.length = n by omega)
    have hne' : (((n : Nat) : Int) != ((n : Nat) : Int)) = false := by simp
    rw [show b.length = n by omega, show a.length = n by omega]
    rw [hn] at hla
    clear hn hne hlb hlt hgt
    obtain ⟨r, hr⟩ : ∃ r, cmpD (dval a) (dval b) = r := ⟨_, rfl⟩
    have HR := Lib.hid hr
    rw [hr]
    clear hr
    go_enter Tryz.func72, Tryz.ntmps72
    go_wp2_with fail
    go_loopw [5] (fun iv wr => ∃ k : Nat, iv = .int .i64 ((k : Int) - 1) ∧ k ≤ n ∧ Fr (fun _ => False) w wr ∧ ∀ j, k ≤ j → j < n → a.getD j 0 = b.getD j 0) (fun iv _ => (intOf iv + 1).toNat)
    case atStart => exact ⟨n, rfl, Nat.le_refl _, Fr.refl _ _, fun j h1 h2 => absurd h2 (by omega)⟩
    case round =>
      obtain ⟨k, rfl, hk, hf, hs⟩ := hrel
      have HF := Lib.hid hf
      have HS := Lib.hid hs
      clear hs hf
      by_cases h0 : k = 0
      · subst h0
        have h0' : ¬ ((0 : Int) ≤ ((0 : Nat) : Int) - 1) := by decide
        have hre := HR.out
        rw [sizes_eq a b (by rw [HN.out, HNB.out]) (fun j hj => HS.out j (Nat.zero_le _) (by rw [← HN.out]; exact hj))] at hre
        have HRE := Lib.hid (show r = 0 by rw [← hre]; simp [cmpD])
        clear hre
        go_wp2_with fail
        go_ret
        exact ⟨by rw [HRE.out]; rfl, HF.out⟩
      · have h0' : (0 : Int) ≤ (k : Int) - 1 := by omega
        obtain ⟨ga, hA, hca⟩ := (HA.out.fr HF.out).at_ rfl (k - 1) (by rw [HN.out]; omega)
        obtain ⟨gb, hB, hcb⟩ := (HB.out.fr HF.out).at_ rfl (k - 1) (by rw [HNB.out]; omega)
        subst hA
        subst hB
        have hkk : ((k - 1 : Nat) : Int) = (k : Int) - 1 := by omega
        obtain ⟨x, hx⟩ : ∃ x, a.getD (k - 1) 0 = x := ⟨_, rfl⟩
        obtain ⟨y, hy⟩ : ∃ y, b.getD (k - 1) 0 = y := ⟨_, rfl⟩
        rw [hx] at hca
        rw [hy] at hcb
        have HX := Lib.hid hx
        have HY := Lib.hid hy
        clear hx hy
        by_cases hxy : x = y
        · have hxy' : ((x : Int) != (y : Int)) = false := by simp [hxy]
          have HXY := Lib.hid hxy
          clear hxy
          go_wp2_with fail
          go_big_quiet (fail)
          go_wp2_with fail
          go_roundw
          case rel => exact ⟨k - 1, by rw [hkk], by omega, HF.out.drewN _, fun j h1 h2 => by
            by_cases e : j = k - 1
            · rw [e, HX.out, HY.out, HXY.out]
            · exact HS.out j (by omega) h2⟩
          case measure => simp only [intOf]; omega
        · have hxy' : ((x : Int) != (y : Int)) = true := by simp; omega
          by_cases hlt : x < y
          · have hlt' : decide (x < y) = true := by simp [hlt]
            go_wp2_with fail
            go_big_quiet (fail)
            go_wp2_with fail
            go_big_quiet (fail)
            go_wp2_with fail
            go_ret
            have h := sizes_lt a b (k - 1) (by rw [HN.out, HNB.out]) (by rw [HN.out]; omega) HDA.out (fun j h1 h2 => HS.out j (by omega) (by rw [← HN.out]; exact h2)) (by rw [HX.out, HY.out]; exact hlt)
            exact ⟨by rw [← HR.out]; unfold cmpD; rw [if_pos h]; rfl, (HF.out.drewN _).drewN _⟩
          · have hlt' : decide (x < y) = false := by simp; omega
            go_wp2_with fail
            go_big_quiet (fail)
            go_wp2_with fail
            go_big_quiet (fail)
            go_wp2_with fail
            go_ret
            have h := sizes_lt b a (k - 1) (by rw [HN.out, HNB.out]) (by rw [HNB.out]; omega) HDB.out (fun j h1 h2 => (HS.out j (by omega) (by rw [← HNB.out]; exact h2)).symm) (by rw [HX.out, HY.out]; omega)
            exact ⟨by rw [← HR.out]; unfold cmpD; rw [if_neg (by omega), if_pos h]; rfl, (HF.out.drewN _).drewN _⟩
  · have hne' : (((a.length : Nat) : Int) != ((b.length : Nat) : Int)) = true := by simp; omega
    by_cases hlt2 : a.length < b.length
    · have hr : cmpD (dval a) (dval b) = -1 := by
        have := hlt hlt2
        simp [cmpD, this]
      rw [hr]
      have hl' : decide (a.length < b.length) = true := by simp [hlt2]
      clear hr hlt hgt
      go_enter Tryz.func72, Tryz.ntmps72
      go_wp2_with fail
      go_ret
      exact ⟨rfl, Fr.refl _ _⟩
    · have hr : cmpD (dval a) (dval b) = 1 := by
        have := hgt (by omega)
        simp [cmpD]
        omega
      rw [hr]
      have hl' : decide (a.length < b.length) = false := by simp; omega
      clear hr hlt hgt
      go_enter Tryz.func72, Tryz.ntmps72
      go_wp2_with fail
      go_ret
      exact ⟨rfl, Fr.refl _ _⟩

theorem carry_lt {a b c : Nat} (h1 : a < 10) (h2 : b < 10) (h3 : c ≤ 1) : (c + a + b) / 10 ≤ 1 := by omega
theorem getD_past {l : List Nat} {i : Nat} (h : ¬ i < l.length) : l.getD i 0 = 0 := by
  rw [List.getD_eq_getElem?_getD, List.getElem?_eq_none (by omega)]
  rfl
set_option maxRecDepth 100000 in
set_option maxHeartbeats 4000000 in
theorem plus_any (B B' : Nat) (v v' : Value) (a b : List Nat) (w : World) (hla : a.length ≤ 4096) (hlb : b.length ≤ 4096) (ha : DRow w B v a) (hb : DRow w B' v' b) (hda : ∀ d, d ∈ a → d < 10) (hdb : ∀ d, d ∈ b → d < 10) :
    Calls Tryz.prog 71 #[v, v'] w fun e w' => ∃ v'', e = .returned v'' ∧ ∃ l, DRow w' w.heap.size v'' l ∧ (∀ d, d ∈ l → d < 10) ∧ dval l = dval a + dval b ∧ l.length ≤ a.length + b.length + 1 ∧ Fr (fun _ => False) w w' := by
  obtain ⟨i3, hi3, hz30, hz31, hz32⟩ := info_parts info3
  obtain ⟨A1, c1, rfl⟩ := row_shape ha
  obtain ⟨A2, c2, rfl⟩ := row_shape hb
  obtain ⟨na, hna⟩ : ∃ n, a.length = n := ⟨_, rfl⟩
  obtain ⟨nb, hnb⟩ : ∃ n, b.length = n := ⟨_, rfl⟩
  rw [hna] at ha hla ⊢
  rw [hnb] at hb hlb ⊢
  have HA := Lib.hid ha
  have HB := Lib.hid hb
  have HDA := Lib.hid hda
  have HDB := Lib.hid hdb
  have HNA := Lib.hid hna
  have HNB := Lib.hid hnb
  clear ha hb hda hdb hna hnb
  go_enter Tryz.func71, Tryz.ntmps71
  go_wp2_with fail
  go_loopw [5, 6, 7] (fun ov cv iv wr => ∃ (i c : Nat) (l : List Nat) (A : Option Addr) (cp : Nat), iv = .int .i64 (i : Int) ∧ cv = .int .i64 (c : Int) ∧ ov = .slice A l.length cp ∧ c ≤ 1 ∧ l.length = i ∧ i ≤ na + nb + 1 ∧ (na ≤ i → nb ≤ i → (i = na ∨ i = nb) ∨ c = 0) ∧ DRow wr w.heap.size (.slice A l.length cp) l ∧ Fr (fun _ => False) w wr ∧ (∀ d, d ∈ l → d < 10) ∧ dval l + 10 ^ i * c = dval (a.take i) + dval (b.take i)) (fun _ _ iv _ => na + nb + 2 - (intOf iv).toNat)
  case atStart => exact ⟨0, 0, [], none, 0, rfl, rfl, rfl, Nat.zero_le _, rfl, Nat.zero_le _, fun _ _ => .inr rfl, DRow.nil _ _, Fr.refl _ _, fun d h => absurd h List.not_mem_nil, rfl⟩
  case round =>
    obtain ⟨i, cy, l, A, c, rfl, rfl, rfl, hcy, hli, hi, hend, hrow, hf, hdl, hsum⟩ := hrel
    have HF := Lib.hid hf
    have HROW := Lib.hid hrow
    have HSUM := Lib.hid hsum
    have HDL := Lib.hid hdl
    have HLI := Lib.hid hli
    have hszf := hf.size
    have hxa := getD_lt HDA.out i
    have hxb := getD_lt HDB.out i
    have HST := Lib.hid (plus_step l a b i cy hli hsum)
    have hll : l.length ≤ na + nb + 1 := by omega
    clear hsum hdl hli
    by_cases ha : i < na
    · by_cases hb : i < nb
      · have ha' : decide (i < na) = true := by simp [ha]
        have hb' : decide (i < nb) = true := by simp [hb]
        obtain ⟨ga, rfl, hca⟩ := (HA.out.fr HF.out).at_ HNA.out i ha
        obtain ⟨x, hx⟩ : ∃ x, a.getD i 0 = x := ⟨_, rfl⟩
        rw [hx] at hca hxa
        have HX := Lib.hid hx
        clear hx
        obtain ⟨gb, rfl, hcb⟩ := (HB.out.fr HF.out).at_ HNB.out i hb
        obtain ⟨y, hy⟩ : ∃ y, b.getD i 0 = y := ⟨_, rfl⟩
        rw [hy] at hcb hxb
        have HY := Lib.hid hy
        clear hy
        go_wp2_with (at_builtin; refine wpList_append_own_at _ rfl _ _ 48 rfl w.heap.size 3 i3 _ 1 8 Tryz.underlying48 hi3 hz30 hz31 hz32 rfl (by decide) _ l.length (l.map fun d : Nat => Value.int .i64 (d : Int)) (by rfl) (World.ownsRow.alloc HROW.out _) ⟨wr.heap.size, 0, none⟩ 1 1 [.int .i64 (((cy : Int) + (x : Int) + (y : Int)) % 10)] (by rfl) rfl (World.news_of_block (heap_alloc_new wr _)) (by intro u hu; rw [List.mem_singleton] at hu; rw [hu]; rfl) (by unfold maxLen; omega) (by omega) (by simp; omega) ?_; intro v6 w6 hown6 hgr6 _ hat6; obtain ⟨A6, c6, hv6⟩ := row_shape hown6; subst hv6; have F6 : Fr (fun j => (Value.slice A l.length c).ownBlock = some j) wr w6 := ((Fr.refl _ _).alloc _).trans (Fr.of_grown hgr6) (fun _ _ h => h); have HO6 := Lib.hid hown6; have HF6 := Lib.hid (HF.out.trans F6 (fun j hj h => absurd (World.ownsRow.lt HROW.out j h).1 (by omega))); clear hown6 hgr6 hat6 F6)
        go_wp2_with fail
        go_roundw
        case rel => exact ⟨i + 1, (cy + x + y) / 10, l ++ [(cy + x + y) % 10], A6, c6, by go_num, by go_num, by rw [List.length_append]; rfl, by omega, by rw [List.length_append, HLI.out]; rfl, by omega, fun h1 h2 => by omega, by
          have h := HO6.out
          unfold DRow
          rw [List.length_append, List.map_append]
          exact h, HF6.out, fun d hd => by
          rw [List.mem_append, List.mem_singleton] at hd
          rcases hd with hd | hd
          · exact HDL.out d hd
          · omega, by
          have h := HST.out
          rw [HX.out, HY.out] at h
          exact h⟩
        case measure => simp only [intOf]; omega
      · have ha' : decide (i < na) = true := by simp [ha]
        have hb' : decide (i < nb) = false := by simp; omega
        obtain ⟨ga, rfl, hca⟩ := (HA.out.fr HF.out).at_ HNA.out i ha
        obtain ⟨x, hx⟩ : ∃ x, a.getD i 0 = x := ⟨_, rfl⟩
        rw [hx] at hca hxa
        have HX := Lib.hid hx
        clear hx
        have HY := Lib.hid (show b.getD i 0 = 0 from getD_past (by rw [HNB.out]; exact hb))
        clear hxb
        go_wp2_with (at_builtin; refine wpList_append_own_at _ rfl _ _ 48 rfl w.heap.size 3 i3 _ 1 8 Tryz.underlying48 hi3 hz30 hz31 hz32 rfl (by decide) _ l.length (l.map fun d : Nat => Value.int .i64 (d : Int)) (by rfl) (World.ownsRow.alloc HROW.out _) ⟨wr.heap.size, 0, none⟩ 1 1 [.int .i64 (((cy : Int) + (x : Int)) % 10)] (by rfl) rfl (World.news_of_block (heap_alloc_new wr _)) (by intro u hu; rw [List.mem_singleton] at hu; rw [hu]; rfl) (by unfold maxLen; omega) (by omega) (by simp; omega) ?_; intro v6 w6 hown6 hgr6 _ hat6; obtain ⟨A6, c6, hv6⟩ := row_shape hown6; subst hv6; have F6 : Fr (fun j => (Value.slice A l.length c).ownBlock = some j) wr w6 := ((Fr.refl _ _).alloc _).trans (Fr.of_grown hgr6) (fun _ _ h => h); have HO6 := Lib.hid hown6; have HF6 := Lib.hid (HF.out.trans F6 (fun j hj h => absurd (World.ownsRow.lt HROW.out j h).1 (by omega))); clear hown6 hgr6 hat6 F6)
        go_wp2_with fail
        go_roundw
        case rel => exact ⟨i + 1, (cy + x + 0) / 10, l ++ [(cy + x + 0) % 10], A6, c6, by go_num, by go_num, by rw [List.length_append]; rfl, by omega, by rw [List.length_append, HLI.out]; rfl, by omega, fun h1 h2 => by omega, by
          have h := HO6.out
          unfold DRow
          rw [List.length_append, List.map_append]
          exact h, HF6.out, fun d hd => by
          rw [List.mem_append, List.mem_singleton] at hd
          rcases hd with hd | hd
          · exact HDL.out d hd
          · omega, by
          have h := HST.out
          rw [HX.out, HY.out] at h
          exact h⟩
        case measure => simp only [intOf]; omega
    · by_cases hb : i < nb
      · have ha' : decide (i < na) = false := by simp; omega
        have hb' : decide (i < nb) = true := by simp [hb]
        have HX := Lib.hid (show a.getD i 0 = 0 from getD_past (by rw [HNA.out]; exact ha))
        clear hxa
        obtain ⟨gb, rfl, hcb⟩ := (HB.out.fr HF.out).at_ HNB.out i hb
        obtain ⟨y, hy⟩ : ∃ y, b.getD i 0 = y := ⟨_, rfl⟩
        rw [hy] at hcb hxb
        have HY := Lib.hid hy
        clear hy
        go_wp2_with (at_builtin; refine wpList_append_own_at _ rfl _ _ 48 rfl w.heap.size 3 i3 _ 1 8 Tryz.underlying48 hi3 hz30 hz31 hz32 rfl (by decide) _ l.length (l.map fun d : Nat => Value.int .i64 (d : Int)) (by rfl) (World.ownsRow.alloc HROW.out _) ⟨wr.heap.size, 0, none⟩ 1 1 [.int .i64 (((cy : Int) + (y : Int)) % 10)] (by rfl) rfl (World.news_of_block (heap_alloc_new wr _)) (by intro u hu; rw [List.mem_singleton] at hu; rw [hu]; rfl) (by unfold maxLen; omega) (by omega) (by simp; omega) ?_; intro v6 w6 hown6 hgr6 _ hat6; obtain ⟨A6, c6, hv6⟩ := row_shape hown6; subst hv6; have F6 : Fr (fun j => (Value.slice A l.length c).ownBlock = some j) wr w6 := ((Fr.refl _ _).alloc _).trans (Fr.of_grown hgr6) (fun _ _ h => h); have HO6 := Lib.hid hown6; have HF6 := Lib.hid (HF.out.trans F6 (fun j hj h => absurd (World.ownsRow.lt HROW.out j h).1 (by omega))); clear hown6 hgr6 hat6 F6)
        go_wp2_with fail
        go_roundw
        case rel => exact ⟨i + 1, (cy + 0 + y) / 10, l ++ [(cy + 0 + y) % 10], A6, c6, by go_num, by go_num, by rw [List.length_append]; rfl, by omega, by rw [List.length_append, HLI.out]; rfl, by omega, fun h1 h2 => by omega, by
          have h := HO6.out
          unfold DRow
          rw [List.length_append, List.map_append]
          exact h, HF6.out, fun d hd => by
          rw [List.mem_append, List.mem_singleton] at hd
          rcases hd with hd | hd
          · exact HDL.out d hd
          · omega, by
          have h := HST.out
          rw [HX.out, HY.out] at h
          exact h⟩
        case measure => simp only [intOf]; omega
      · by_cases hc : 0 < cy
        · have hc' : (0 : Int) < (cy : Int) := by omega
          have ha' : decide (i < na) = false := by simp; omega
          have hb' : decide (i < nb) = false := by simp; omega
          have HX := Lib.hid (show a.getD i 0 = 0 from getD_past (by rw [HNA.out]; exact ha))
          clear hxa
          have HY := Lib.hid (show b.getD i 0 = 0 from getD_past (by rw [HNB.out]; exact hb))
          clear hxb
          go_wp2_with (at_builtin; refine wpList_append_own_at _ rfl _ _ 48 rfl w.heap.size 3 i3 _ 1 8 Tryz.underlying48 hi3 hz30 hz31 hz32 rfl (by decide) _ l.length (l.map fun d : Nat => Value.int .i64 (d : Int)) (by rfl) (World.ownsRow.alloc HROW.out _) ⟨wr.heap.size, 0, none⟩ 1 1 [.int .i64 (((cy : Int)) % 10)] (by rfl) rfl (World.news_of_block (heap_alloc_new wr _)) (by intro u hu; rw [List.mem_singleton] at hu; rw [hu]; rfl) (by unfold maxLen; omega) (by omega) (by simp; omega) ?_; intro v6 w6 hown6 hgr6 _ hat6; obtain ⟨A6, c6, hv6⟩ := row_shape hown6; subst hv6; have F6 : Fr (fun j => (Value.slice A l.length c).ownBlock = some j) wr w6 := ((Fr.refl _ _).alloc _).trans (Fr.of_grown hgr6) (fun _ _ h => h); have HO6 := Lib.hid hown6; have HF6 := Lib.hid (HF.out.trans F6 (fun j hj h => absurd (World.ownsRow.lt HROW.out j h).1 (by omega))); clear hown6 hgr6 hat6 F6)
          go_wp2_with fail
          go_roundw
          case rel => exact ⟨i + 1, (cy + 0 + 0) / 10, l ++ [(cy + 0 + 0) % 10], A6, c6, by go_num, by go_num, by rw [List.length_append]; rfl, by omega, by rw [List.length_append, HLI.out]; rfl, by omega, fun h1 h2 => by omega, by
            have h := HO6.out
            unfold DRow
            rw [List.length_append, List.map_append]
            exact h, HF6.out, fun d hd => by
            rw [List.mem_append, List.mem_singleton] at hd
            rcases hd with hd | hd
            · exact HDL.out d hd
            · omega, by
            have h := HST.out
            rw [HX.out, HY.out] at h
            exact h⟩
          case measure => simp only [intOf]; omega
        · have hc0 : cy = 0 := by omega
          subst hc0
          have ha' : decide (i < na) = false := by simp; omega
          have hb' : decide (i < nb) = false := by simp; omega
          go_wp2_with fail
          go_ret
          refine ⟨_, rfl, l, HROW.out, HDL.out, ?_, hll, HF.out⟩
          have h := HSUM.out
          rw [List.take_of_length_le (by rw [HNA.out]; omega), List.take_of_length_le (by rw [HNB.out]; omega)] at h
          omega

set_option maxRecDepth 100000 in
set_option maxHeartbeats 4000000 in
theorem minus_any (B B' : Nat) (v v' : Value) (a b : List Nat) (w : World) (hla : a.length ≤ 4096) (hba : b.length ≤ a.length) (hle : dval b ≤ dval a) (ha : DRow w B v a) (hb : DRow w B' v' b) (hda : ∀ d, d ∈ a → d < 10) (hdb : ∀ d, d ∈ b → d < 10) :
    Calls Tryz.prog 73 #[v, v'] w fun e w' => ∃ v'', e = .returned v'' ∧ ∃ l, DRow w' w.heap.size v'' l ∧ (∀ d, d ∈ l → d < 10) ∧ dval l = dval a - dval b ∧ l.length = a.length ∧ Fr (fun _ => False) w w' := by
  obtain ⟨i3, hi3, hz30, hz31, hz32⟩ := info_parts info3
  obtain ⟨A1, c1, rfl⟩ := row_shape ha
  obtain ⟨A2, c2, rfl⟩ := row_shape hb
  obtain ⟨na, hna⟩ : ∃ n, a.length = n := ⟨_, rfl⟩
  obtain ⟨nb, hnb⟩ : ∃ n, b.length = n := ⟨_, rfl⟩
  rw [hna] at ha hla hba ⊢
  rw [hnb] at hb hba ⊢
  have HA := Lib.hid ha
  have HB := Lib.hid hb
  have HDA := Lib.hid hda
  have HDB := Lib.hid hdb
  have HNA := Lib.hid hna
  have HNB := Lib.hid hnb
  have HLE := Lib.hid hle
  clear ha hb hda hdb hna hnb hle
  go_enter Tryz.func73, Tryz.ntmps73
  go_wp2_with fail
  go_loopw [5, 6, 11] (fun ov cv iv wr => ∃ (i c : Nat) (l : List Nat) (A : Option Addr) (cp : Nat), iv = .int .i64 (i : Int) ∧ cv = .int .i64 (c : Int) ∧ ov = .slice A l.length cp ∧ c ≤ 1 ∧ l.length = i ∧ i ≤ na ∧ DRow wr w.heap.size (.slice A l.length cp) l ∧ Fr (fun _ => False) w wr ∧ (∀ d, d ∈ l → d < 10) ∧ dval l + dval (b.take i) = dval (a.take i) + 10 ^ i * c) (fun _ _ iv _ => na - (intOf iv).toNat)
  case atStart => exact ⟨0, 0, [], none, 0, rfl, rfl, rfl, Nat.zero_le _, rfl, Nat.zero_le _, DRow.nil _ _, Fr.refl _ _, fun d h => absurd h List.not_mem_nil, rfl⟩
  case round =>
    obtain ⟨i, cy, l, A, c, rfl, rfl, rfl, hcy, hli, hi, hrow, hf, hdl, hsum⟩ := hrel
    have HF := Lib.hid hf
    have HROW := Lib.hid hrow
    have HSUM := Lib.hid hsum
    have HDL := Lib.hid hdl
    have HLI := Lib.hid hli
    have hszf := hf.size
    have hxa := getD_lt HDA.out i
    have hxb := getD_lt HDB.out i
    have HST := Lib.hid (fun c' d h => minus_step l a b i cy c' d hli hsum h)
    have hll : l.length ≤ na := by omega
    clear hsum hdl hli
    by_cases ha : i < na
    · have ha' : decide (i < na) = true := by simp [ha]
      obtain ⟨ga, rfl, hca⟩ := (HA.out.fr HF.out).at_ HNA.out i ha
      obtain ⟨x, hx⟩ : ∃ x, a.getD i 0 = x := ⟨_, rfl⟩
      rw [hx] at hca hxa
      have HX := Lib.hid hx
      clear hx
      by_cases hb : i < nb
      · have hb' : decide (i < nb) = true := by simp [hb]
        obtain ⟨gb, rfl, hcb⟩ := (HB.out.fr HF.out).at_ HNB.out i hb
        obtain ⟨y, hy⟩ : ∃ y, b.getD i 0 = y := ⟨_, rfl⟩
        rw [hy] at hcb hxb
        have HY := Lib.hid hy
        clear hy
        by_cases hneg : (x : Int) - (cy : Int) - (y : Int) < 0
        · go_wp2_with (at_builtin; refine wpList_append_own_at _ rfl _ _ 48 rfl w.heap.size 3 i3 _ 1 8 Tryz.underlying48 hi3 hz30 hz31 hz32 rfl (by decide) _ l.length (l.map fun d : Nat => Value.int .i64 (d : Int)) (by rfl) (World.ownsRow.alloc HROW.out _) ⟨wr.heap.size, 0, none⟩ 1 1 [.int .i64 ((x : Int) - (cy : Int) - (y : Int) + 10)] (by rfl) rfl (World.news_of_block (heap_alloc_new wr _)) (by intro u hu; rw [List.mem_singleton] at hu; rw [hu]; rfl) (by unfold maxLen; omega) (by omega) (by simp; omega) ?_; intro v6 w6 hown6 hgr6 _ hat6; obtain ⟨A6, c6, hv6⟩ := row_shape hown6; subst hv6; have F6 : Fr (fun j => (Value.slice A l.length c).ownBlock = some j) wr w6 := ((Fr.refl _ _).alloc _).trans (Fr.of_grown hgr6) (fun _ _ h => h); have HO6 := Lib.hid hown6; have HF6 := Lib.hid (HF.out.trans F6 (fun j hj h => absurd (World.ownsRow.lt HROW.out j h).1 (by omega))); clear hown6 hgr6 hat6 F6)
          go_wp2_with fail
          go_roundw
          case rel => exact ⟨i + 1, 1, l ++ [x + 10 - cy - y], A6, c6, by go_num, rfl, by rw [List.length_append]; rfl, by omega, by rw [List.length_append, HLI.out]; rfl, by omega, by
            have h := HO6.out
            unfold DRow
            rw [List.length_append, List.map_append]
            rw [show (x : Int) - (cy : Int) - (y : Int) + 10 = ((x + 10 - cy - y : Nat) : Int) by omega] at h
            exact h, HF6.out, fun d hd => by
            rw [List.mem_append, List.mem_singleton] at hd
            rcases hd with hd | hd
            · exact HDL.out d hd
            · omega, HST.out 1 (x + 10 - cy - y) (by rw [HX.out, HY.out]; omega)⟩
          case measure => simp only [intOf]; omega
        · go_wp2_with (at_builtin; refine wpList_append_own_at _ rfl _ _ 48 rfl w.heap.size 3 i3 _ 1 8 Tryz.underlying48 hi3 hz30 hz31 hz32 rfl (by decide) _ l.length (l.map fun d : Nat => Value.int .i64 (d : Int)) (by rfl) (World.ownsRow.alloc HROW.out _) ⟨wr.heap.size, 0, none⟩ 1 1 [.int .i64 ((x : Int) - (cy : Int) - (y : Int))] (by rfl) rfl (World.news_of_block (heap_alloc_new wr _)) (by intro u hu; rw [List.mem_singleton] at hu; rw [hu]; rfl) (by unfold maxLen; omega) (by omega) (by simp; omega) ?_; intro v6 w6 hown6 hgr6 _ hat6; obtain ⟨A6, c6, hv6⟩ := row_shape hown6; subst hv6; have F6 : Fr (fun j => (Value.slice A l.length c).ownBlock = some j) wr w6 := ((Fr.refl _ _).alloc _).trans (Fr.of_grown hgr6) (fun _ _ h => h); have HO6 := Lib.hid hown6; have HF6 := Lib.hid (HF.out.trans F6 (fun j hj h => absurd (World.ownsRow.lt HROW.out j h).1 (by omega))); clear hown6 hgr6 hat6 F6)
          go_wp2_with fail
          go_roundw
          case rel => exact ⟨i + 1, 0, l ++ [x + 0 - cy - y], A6, c6, by go_num, rfl, by rw [List.length_append]; rfl, by omega, by rw [List.length_append, HLI.out]; rfl, by omega, by
            have h := HO6.out
            unfold DRow
            rw [List.length_append, List.map_append]
            rw [show (x : Int) - (cy : Int) - (y : Int) = ((x + 0 - cy - y : Nat) : Int) by omega] at h
            exact h, HF6.out, fun d hd => by
            rw [List.mem_append, List.mem_singleton] at hd
            rcases hd with hd | hd
            · exact HDL.out d hd
            · omega, HST.out 0 (x + 0 - cy - y) (by rw [HX.out, HY.out]; omega)⟩
          case measure => simp only [intOf]; omega
      · have hb' : decide (i < nb) = false := by simp; omega
        have HY := Lib.hid (show b.getD i 0 = 0 from getD_past (by rw [HNB.out]; exact hb))
        clear hxb
        by_cases hneg : (x : Int) - (cy : Int) < 0
        · go_wp2_with (at_builtin; refine wpList_append_own_at _ rfl _ _ 48 rfl w.heap.size 3 i3 _ 1 8 Tryz.underlying48 hi3 hz30 hz31 hz32 rfl (by decide) _ l.length (l.map fun d : Nat => Value.int .i64 (d : Int)) (by rfl) (World.ownsRow.alloc HROW.out _) ⟨wr.heap.size, 0, none⟩ 1 1 [.int .i64 ((x : Int) - (cy : Int) + 10)] (by rfl) rfl (World.news_of_block (heap_alloc_new wr _)) (by intro u hu; rw [List.mem_singleton] at hu; rw [hu]; rfl) (by unfold maxLen; omega) (by omega) (by simp; omega) ?_; intro v6 w6 hown6 hgr6 _ hat6; obtain ⟨A6, c6, hv6⟩ := row_shape hown6; subst hv6; have F6 : Fr (fun j => (Value.slice A l.length c).ownBlock = some j) wr w6 := ((Fr.refl _ _).alloc _).trans (Fr.of_grown hgr6) (fun _ _ h => h); have HO6 := Lib.hid hown6; have HF6 := Lib.hid (HF.out.trans F6 (fun j hj h => absurd (World.ownsRow.lt HROW.out j h).1 (by omega))); clear hown6 hgr6 hat6 F6)
          go_wp2_with fail
          go_roundw
          case rel => exact ⟨i + 1, 1, l ++ [x + 10 - cy - 0], A6, c6, by go_num, rfl, by rw [List.length_append]; rfl, by omega, by rw [List.length_append, HLI.out]; rfl, by omega, by
            have h := HO6.out
            unfold DRow
            rw [List.length_append, List.map_append]
            rw [show (x : Int) - (cy : Int) + 10 = ((x + 10 - cy - 0 : Nat) : Int) by omega] at h
            exact h, HF6.out, fun d hd => by
            rw [List.mem_append, List.mem_singleton] at hd
            rcases hd with hd | hd
            · exact HDL.out d hd
            · omega, HST.out 1 (x + 10 - cy - 0) (by rw [HX.out, HY.out]; omega)⟩
          case measure => simp only [intOf]; omega
        · go_wp2_with (at_builtin; refine wpList_append_own_at _ rfl _ _ 48 rfl w.heap.size 3 i3 _ 1 8 Tryz.underlying48 hi3 hz30 hz31 hz32 rfl (by decide) _ l.length (l.map fun d : Nat => Value.int .i64 (d : Int)) (by rfl) (World.ownsRow.alloc HROW.out _) ⟨wr.heap.size, 0, none⟩ 1 1 [.int .i64 ((x : Int) - (cy : Int))] (by rfl) rfl (World.news_of_block (heap_alloc_new wr _)) (by intro u hu; rw [List.mem_singleton] at hu; rw [hu]; rfl) (by unfold maxLen; omega) (by omega) (by simp; omega) ?_; intro v6 w6 hown6 hgr6 _ hat6; obtain ⟨A6, c6, hv6⟩ := row_shape hown6; subst hv6; have F6 : Fr (fun j => (Value.slice A l.length c).ownBlock = some j) wr w6 := ((Fr.refl _ _).alloc _).trans (Fr.of_grown hgr6) (fun _ _ h => h); have HO6 := Lib.hid hown6; have HF6 := Lib.hid (HF.out.trans F6 (fun j hj h => absurd (World.ownsRow.lt HROW.out j h).1 (by omega))); clear hown6 hgr6 hat6 F6)
          go_wp2_with fail
          go_roundw
          case rel => exact ⟨i + 1, 0, l ++ [x + 0 - cy - 0], A6, c6, by go_num, rfl, by rw [List.length_append]; rfl, by omega, by rw [List.length_append, HLI.out]; rfl, by omega, by
            have h := HO6.out
            unfold DRow
            rw [List.length_append, List.map_append]
            rw [show (x : Int) - (cy : Int) = ((x + 0 - cy - 0 : Nat) : Int) by omega] at h
            exact h, HF6.out, fun d hd => by
            rw [List.mem_append, List.mem_singleton] at hd
            rcases hd with hd | hd
            · exact HDL.out d hd
            · omega, HST.out 0 (x + 0 - cy - 0) (by rw [HX.out, HY.out]; omega)⟩
          case measure => simp only [intOf]; omega
    · have ha' : decide (i < na) = false := by simp; omega
      have e : i = na := by omega
      have HE := Lib.hid e
      clear e
      go_wp2_with fail
      go_ret
      have h := HSUM.out
      rw [HE.out, ← HNA.out] at h
      exact ⟨_, rfl, l, HROW.out, HDL.out, minus_end l a b cy (by rw [HLI.out, HE.out, HNA.out]) (by rw [HNA.out, HNB.out]; exact hba) HLE.out HDL.out h, by rw [HLI.out, HE.out], HF.out⟩

end Go.Proofs.YtflhmieeidnpgaaGreatDoor
