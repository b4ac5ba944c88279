/- The document's numbers: Of, trim: walked. -/
import Derived.Test.YtflhmieeidnpgaaGreatDoorGw
import Derived.Test.YtflhmieeidnpgaaGreatDoorGu
import Derived.Test.YtflhmieeidnpgaaGreatDoorIa
import Derived.Deep.CutBlock
import Derived.Deep.RegionLawGrows
import Derived.Deep.Cut
import Derived.Deep.CutRange
import Derived.WalkKit
import Derived.WalkLawsBesides
import Derived.WalkSpells
import Derived.Deep.QuietTactic
import Derived.BigRegion
import Derived.BigQuiet
import Derived.Lib.Hide
import Derived.Outline
import Derived.Deep.AppendLies
import Derived.Deep.RegionLaw
import Derived.Deep.RegionWith
import Derived.Deep.RegionHeld3
import Derived.Deep.LoopGhost
import Derived.Deep.DeepFit
import Derived.Laws.ResultCell
import Derived.Laws.RangeAny
import Derived.Deep.MidRow
import Derived.StillTailTactics
import Derived.OpenShut
namespace Go.Proofs.YtflhmieeidnpgaaGreatDoor
set_option linter.unusedVariables false
open Go.RowKit Go


/-- A row of digits. -/
def DRow (w : World) (B : Nat) (v : Value) (l : List Nat) : Prop := w.ownsRow B 3 1 v l.length (l.map fun d : Nat => Value.int .i64 (d : Int))
/-- A number of the document's. -/
def IsBig (w : World) (B : Nat) (v : Value) (n : Int) : Prop := ∃ A c, v = .agg #[.bool (decide (n < 0)), .slice A (digs n.natAbs).length c] ∧ DRow w B (.slice A (digs n.natAbs).length c) (digs n.natAbs)
theorem DRow.at_ {w : World} {B n c : Nat} {A : Option Addr} {l : List Nat} (h : DRow w B (.slice A n c) l) (hn : l.length = n) (i : Nat) (hi : i < n) : ∃ g, A = some ⟨g, 0, none⟩ ∧ w.cell? ⟨g, i, none⟩ = some (.int .i64 ((l.getD i 0 : Nat) : Int)) := by
  unfold DRow at h
  rw [hn] at h
  obtain ⟨g, rfl, _, _, _⟩ := row_form h (by omega)
  refine ⟨g, rfl, ?_⟩
  rw [World.ownsRow.cellAt h i (by omega), List.getElem?_map, List.getD_eq_getElem?_getD, List.getElem?_eq_getElem (by omega)]
  rfl
theorem DRow.fr {w w' : World} {B : Nat} {v : Value} {l : List Nat} (h : DRow w B v l) (hf : Fr (fun _ => False) w w') : DRow w' B v l := ownsRow_fr h hf (fun _ _ h => h)
theorem DRow.nil (w : World) (B : Nat) : DRow w B (.slice none 0 0) [] := World.ownsRow_nil _ _ _ _
theorem ownsRow_set {w : World} {B e size n : Nat} {v : Value} {xs : List Value} (h : w.ownsRow B e size v n xs) (g i : Nat) (hp : g < B) (u : Value) : (w.setCell ⟨g, i, none⟩ u).ownsRow B e size v n xs :=
  ownsRow_fr h (S := fun j => j = g) (Fr.setCell (S := fun j => j = g) (Fr.refl _ w) ⟨g, i, none⟩ (fun _ => rfl) u) (fun j hj e => absurd (h.lt j hj).1 (by omega))
/-- -1, 0, 1: how two are. -/
def cmpD (a b : Nat) : Int := if a < b then -1 else if b < a then 1 else 0
theorem tmod10 (x : Int) : (x.tmod 10).natAbs = x.natAbs % 10 ∧ (x.tdiv 10).natAbs = x.natAbs / 10 ∧ (0 ≤ x → 0 ≤ x.tmod 10 ∧ 0 ≤ x.tdiv 10) ∧ (x ≤ 0 → x.tmod 10 ≤ 0 ∧ x.tdiv 10 ≤ 0) := by
  by_cases h : 0 ≤ x
  · rw [Int.tmod_eq_emod_of_nonneg h, Int.tdiv_eq_ediv_of_nonneg h]
    omega
  · obtain ⟨y, rfl⟩ : ∃ y, x = -y := ⟨-x, by omega⟩
    rw [Int.neg_tmod, Int.neg_tdiv, Int.tmod_eq_emod_of_nonneg (by omega), Int.tdiv_eq_ediv_of_nonneg (by omega)]
    omega

set_option maxRecDepth 100000 in
set_option maxHeartbeats 4000000 in
theorem dof_any (n0 : Int) (h1 : -9223372036854775808 ≤ n0) (h2 : n0 ≤ 9223372036854775807) (w : World) :
    Calls Tryz.prog 31 #[.int .i64 n0] w fun e w' => ∃ v, e = .returned v ∧ IsBig w' w.heap.size v n0 ∧ Fr (fun _ => False) w w' := by
  obtain ⟨i3, hi3, hz30, hz31, hz32⟩ := info_parts info3
  obtain ⟨b, hb⟩ : ∃ b, decide (n0 < 0) = b := ⟨_, rfl⟩
  have HBB := Lib.hid hb
  have hR := (Blk.new w 83 #[.bool false, .slice none 0 0]).alloc (.cells #[.bool b, .slice none 0 0] 83)
  have HR := Lib.hid hR
  have hL := Blk.new (w.alloc (.cells #[.bool false, .slice none 0 0] 83)) 83 #[.bool b, .slice none 0 0]
  rw [show (w.alloc (.cells #[.bool false, .slice none 0 0] 83)).heap.size = w.heap.size + 1 by simp] at hL
  have HL := Lib.hid hL
  have hlen := digs_len 20 n0.natAbs (by omega)
  clear hR hL
  go_enter Tryz.func31, Tryz.ntmps31
  go_wp2_with fail
  go_loopw [0] (fun nv wr => ∃ (x : Int) (l : List Nat) (A : Option Addr) (c : Nat), nv = .int .i64 x ∧ -9223372036854775808 ≤ x ∧ x ≤ 9223372036854775807 ∧ (0 ≤ n0 → 0 ≤ x) ∧ (n0 ≤ 0 → x ≤ 0) ∧ digs n0.natAbs = l ++ digs x.natAbs ∧ Blk wr w.heap.size 83 #[.bool false, .slice none 0 0] ∧ Blk wr (w.heap.size + 1) 83 #[.bool b, .slice A l.length c] ∧ DRow wr (w.heap.size + 2) (.slice A l.length c) l ∧ Fr (fun _ => False) w wr ∧ w.heap.size + 2 ≤ wr.heap.size) (fun nv _ => (intOf nv).natAbs)
  case atStart => exact ⟨n0, [], none, 0, rfl, h1, h2, fun h => h, fun h => h, rfl, HR.out, HL.out, DRow.nil _ _, ((Fr.refl _ _).alloc _).alloc _, by simp⟩
  case round =>
    obtain ⟨x, l, A, c, rfl, hx1, hx2, hx3, hx4, hdl, hbr, hbl, hrow, hf, hsz⟩ := hrel
    have HF := Lib.hid hf
    have HBR := Lib.hid hbr
    have HBL := Lib.hid hbl
    have HROW := Lib.hid hrow
    have HDL := Lib.hid hdl
    have HX3 := Lib.hid hx3
    have HX4 := Lib.hid hx4
    obtain ⟨m1, m2, m3, m4⟩ := tmod10 x
    have b0 : wr.cell? ⟨w.heap.size + 1, 0, none⟩ = some (.bool b) := hbl.cell 0
    have b1 : wr.cell? ⟨w.heap.size + 1, 1, none⟩ = some (.slice A l.length c) := hbl.cell 1
    have f1 := hbl.frozen 1
    have hll : l.length ≤ 20 := by
      rw [hdl, List.length_append] at hlen
      omega
    clear hf hbr hbl hrow hx3 hx4
    by_cases hx0 : x = 0
    · have hx0' : (x != 0) = false := by simp [hx0]
      subst hx0
      rw [show digs (0 : Int).natAbs = [] from digs_zero, List.append_nil] at hdl
      have HDL := Lib.hid hdl
      have a0 : wr.cell? ⟨w.heap.size, 0, none⟩ = some (.bool false) := HBR.out.cell 0
      have a1 : wr.cell? ⟨w.heap.size, 1, none⟩ = some (.slice none 0 0) := HBR.out.cell 1
      have g0 := HBR.out.frozen 0
      have g1 := HBR.out.frozen 1
      clear hdl m1 m2 m3 m4
      go_wp2_with fail
      exact bodyPost_ret (v := .agg #[.bool b, .slice A l.length c]) (results_cell_row rfl _ _ w.heap.size 83 _ (0, 0) _ rfl ((HBR.out.set_ 0 (.bool b)).set_ 1 (.slice A l.length c)) Tryz.underlying83 rfl (by kernel_rfl)) rfl ⟨_, rfl, ⟨A, c, by rw [HBB.out, HDL.out], by
        rw [HDL.out]
        exact ownsRow_base (ownsRow_set (ownsRow_set HROW.out w.heap.size 0 (by omega) _) w.heap.size 1 (by omega) _) (by omega)⟩, (HF.out.setCell ⟨w.heap.size, 0, none⟩ (fun h => absurd h (Nat.lt_irrefl _)) _).setCell ⟨w.heap.size, 1, none⟩ (fun h => absurd h (Nat.lt_irrefl _)) _⟩
    · have hx0' : (x != 0) = true := by simp [hx0]
      rw [digs_pos (n := x.natAbs) (by omega)] at hdl
      have HDL := Lib.hid hdl
      clear hdl
      by_cases hn : x.tmod 10 < 0
      · go_wp2_with (at_builtin; refine wpList_append_own_at _ rfl _ _ 48 rfl (w.heap.size + 2) 3 i3 _ 1 8 Tryz.underlying48 hi3 hz30 hz31 hz32 rfl (by decide) _ l.length (l.map fun d : Nat => Value.int .i64 (d : Int)) (by rfl) (World.ownsRow.alloc HROW.out _) ⟨wr.heap.size, 0, none⟩ 1 1 [.int .i64 (-x.tmod 10)] (by rfl) rfl (World.news_of_block (heap_alloc_new wr _)) (by intro u hu; rw [List.mem_singleton] at hu; rw [hu]; rfl) (by unfold maxLen; omega) (by omega) (by simp; omega) ?_; intro v6 w6 hown6 hgr6 _ hat6; obtain ⟨A6, c6, hv6⟩ := row_shape hown6; subst hv6; have F6 : Fr (fun j => (Value.slice A l.length c).ownBlock = some j) wr w6 := ((Fr.refl _ _).alloc _).trans (Fr.of_grown hgr6) (fun _ _ h => h); have hbl6 := HBL.out.fr F6 (fun h => absurd (World.ownsRow.lt HROW.out _ h).1 (by omega)); have hbr6 := HBR.out.fr F6 (fun h => absurd (World.ownsRow.lt HROW.out _ h).1 (by omega)); have HO6 := Lib.hid hown6; have HBL6 := Lib.hid hbl6; have HBR6 := Lib.hid hbr6; have HF6 := Lib.hid (HF.out.trans F6 (fun j hj h => absurd (World.ownsRow.lt HROW.out j h).1 (by omega))); have hs6 := F6.size; have d1 := hbl6.cell 1; have e1 := hbl6.frozen 1; clear b0 b1 f1 hown6 hgr6 hat6 hbl6 hbr6 F6)
        go_roundw
        case rel => exact ⟨x.tdiv 10, l ++ [x.natAbs % 10], A6, c6, by go_num, by omega, by omega, fun h => (m3 (HX3.out h)).2, fun h => (m4 (HX4.out h)).2, by rw [HDL.out, m2, List.append_assoc]; rfl, HBR6.out.far (by simp) _, by rw [List.length_append]; exact HBL6.out.set_ 1 _, by
          have h := ownsRow_set HO6.out (w.heap.size + 1) 1 (by omega) (.slice A6 (l.length + 1) c6)
          unfold DRow
          rw [List.length_append, List.map_append]
          rw [show -x.tmod 10 = ((x.natAbs % 10 : Nat) : Int) by omega] at h
          exact h, HF6.out.setCell ⟨w.heap.size + 1, 1, none⟩ (fun h => absurd h (show ¬ w.heap.size + 1 < w.heap.size by omega)) _, by rw [show (w6.setCell ⟨w.heap.size + 1, 1, none⟩ (.slice A6 (l.length + 1) c6)).heap.size = w6.heap.size by simp [World.setCell]]; omega⟩
        case measure => simp only [intOf]; omega
      · go_wp2_with (at_builtin; refine wpList_append_own_at _ rfl _ _ 48 rfl (w.heap.size + 2) 3 i3 _ 1 8 Tryz.underlying48 hi3 hz30 hz31 hz32 rfl (by decide) _ l.length (l.map fun d : Nat => Value.int .i64 (d : Int)) (by rfl) (World.ownsRow.alloc HROW.out _) ⟨wr.heap.size, 0, none⟩ 1 1 [.int .i64 (x.tmod 10)] (by rfl) rfl (World.news_of_block (heap_alloc_new wr _)) (by intro u hu; rw [List.mem_singleton] at hu; rw [hu]; rfl) (by unfold maxLen; omega) (by omega) (by simp; omega) ?_; intro v6 w6 hown6 hgr6 _ hat6; obtain ⟨A6, c6, hv6⟩ := row_shape hown6; subst hv6; have F6 : Fr (fun j => (Value.slice A l.length c).ownBlock = some j) wr w6 := ((Fr.refl _ _).alloc _).trans (Fr.of_grown hgr6) (fun _ _ h => h); have hbl6 := HBL.out.fr F6 (fun h => absurd (World.ownsRow.lt HROW.out _ h).1 (by omega)); have hbr6 := HBR.out.fr F6 (fun h => absurd (World.ownsRow.lt HROW.out _ h).1 (by omega)); have HO6 := Lib.hid hown6; have HBL6 := Lib.hid hbl6; have HBR6 := Lib.hid hbr6; have HF6 := Lib.hid (HF.out.trans F6 (fun j hj h => absurd (World.ownsRow.lt HROW.out j h).1 (by omega))); have hs6 := F6.size; have d1 := hbl6.cell 1; have e1 := hbl6.frozen 1; clear b0 b1 f1 hown6 hgr6 hat6 hbl6 hbr6 F6)
        go_roundw
        case rel => exact ⟨x.tdiv 10, l ++ [x.natAbs % 10], A6, c6, by go_num, by omega, by omega, fun h => (m3 (HX3.out h)).2, fun h => (m4 (HX4.out h)).2, by rw [HDL.out, m2, List.append_assoc]; rfl, HBR6.out.far (by simp) _, by rw [List.length_append]; exact HBL6.out.set_ 1 _, by
          have h := ownsRow_set HO6.out (w.heap.size + 1) 1 (by omega) (.slice A6 (l.length + 1) c6)
          unfold DRow
          rw [List.length_append, List.map_append]
          rw [show x.tmod 10 = ((x.natAbs % 10 : Nat) : Int) by omega] at h
          exact h, HF6.out.setCell ⟨w.heap.size + 1, 1, none⟩ (fun h => absurd h (show ¬ w.heap.size + 1 < w.heap.size by omega)) _, by rw [show (w6.setCell ⟨w.heap.size + 1, 1, none⟩ (.slice A6 (l.length + 1) c6)).heap.size = w6.heap.size by simp [World.setCell]]; omega⟩
        case measure => simp only [intOf]; omega

/-- A number of a sign and a size. -/
def sgn (b : Bool) (m : Nat) : Int := if b = true then -(m : Int) else (m : Int)
theorem sgn_abs (b : Bool) (m : Nat) : (sgn b m).natAbs = m := by
  unfold sgn
  split <;> omega
theorem sgn_neg (b : Bool) (m : Nat) : decide (sgn b m < 0) = (b && !decide (m = 0)) := by
  unfold sgn
  cases b with
  | true =>
    rw [if_pos rfl, Bool.true_and, Bool.eq_iff_iff]
    simp only [decide_eq_true_eq, Bool.not_eq_true', decide_eq_false_iff_not]
    omega
  | false =>
    rw [if_neg (by decide), Bool.false_and, decide_eq_false_iff_not]
    omega
theorem DRow.take_ {w : World} {B n c : Nat} {A : Option Addr} {l : List Nat} (h : DRow w B (.slice A n c) l) (hn : l.length = n) {k : Nat} (hk : k ≤ n) : DRow w B (.slice A k c) (l.take k) := by
  unfold DRow at h ⊢
  rw [List.length_take, Nat.min_eq_left (by omega), List.map_take]
  rw [hn] at h
  rcases Nat.eq_zero_or_pos n with h0 | h0
  · obtain rfl : k = n := by omega
    rw [List.take_of_length_le (by simp; omega)]
    exact h
  · exact ownsRow_take h hk h0
theorem big_of {w : World} {B k c m : Nat} {A : Option Addr} {b b' : Bool} (h : DRow w B (.slice A k c) (digs m)) (hk : (digs m).length = k) (hb : b' = (b && !decide (m = 0))) : IsBig w B (.agg #[.bool b', .slice A k c]) (sgn b m) := by
  subst hk
  refine ⟨A, c, ?_, ?_⟩
  · rw [sgn_neg, sgn_abs, hb]
  · rw [sgn_abs]
    exact h
set_option maxRecDepth 100000 in
set_option maxHeartbeats 4000000 in
theorem trim_any (b : Bool) (B : Nat) (v : Value) (l : List Nat) (w : World) (hl : l.length ≤ 4096) (hd : ∀ d, d ∈ l → d < 10) (hr : DRow w B v l) :
    Calls Tryz.prog 70 #[.agg #[.bool b, v]] w fun e w' => ∃ v', e = .returned v' ∧ IsBig w' B v' (sgn b (dval l)) ∧ Fr (fun _ => False) w w' := by
  obtain ⟨A, c, rfl⟩ := row_shape hr
  obtain ⟨n, hn⟩ : ∃ n, l.length = n := ⟨_, rfl⟩
  rw [hn] at hr ⊢
  have HN := Lib.hid hn
  have HD := Lib.hid hd
  have HR := Lib.hid hr
  rw [hn] at hl
  have hl' : (n : Int) ≤ 4096 := by omega
  have hL := (Blk.new w 83 #[.bool b, .slice A n c]).alloc (.cells #[.bool false, .slice none 0 0] 83)
  have HL := Lib.hid hL
  have hZ := Blk.new (w.alloc (.cells #[.bool b, .slice A n c] 83)) 83 #[.bool false, .slice none 0 0]
  rw [show (w.alloc (.cells #[.bool b, .slice A n c] 83)).heap.size = w.heap.size + 1 by simp] at hZ
  have HZ := Lib.hid hZ
  have hblt : ∀ wy, Fr (fun _ => False) w wy → ∀ j : Nat, (Value.slice A n c).ownBlock = some j → j < w.heap.size := fun _ _ j hj => (World.ownsRow.lt hr j hj).2
  clear hL hZ hn hd hr
  go_enter Tryz.func70, Tryz.ntmps70
  go_wp2_with fail
  go_loopg [] (n) (fun g wr => ∃ k : Nat, k ≤ n ∧ k ≤ g ∧ Blk wr w.heap.size 83 #[.bool b, .slice A k c] ∧ Blk wr (w.heap.size + 1) 83 #[.bool false, .slice none 0 0] ∧ Fr (fun _ => False) w wr ∧ ∀ i, k ≤ i → i < n → l.getD i 0 = 0)
  case atStart => exact ⟨n, Nat.le_refl _, Nat.le_refl _, HL.out, HZ.out, ((Fr.refl _ _).alloc _).alloc _, fun i h1 h2 => absurd h2 (by omega)⟩
  case round =>
    obtain ⟨k, hk, hg, hbl, hbz, hf, hs⟩ := hrel
    have HF := Lib.hid hf
    have HBL := Lib.hid hbl
    have HBZ := Lib.hid hbz
    have HS := Lib.hid hs
    have b0 : wr.cell? ⟨w.heap.size, 0, none⟩ = some (.bool b) := hbl.cell 0
    have b1 : wr.cell? ⟨w.heap.size, 1, none⟩ = some (.slice A k c) := hbl.cell 1
    have f0 := hbl.frozen 0
    have f1 := hbl.frozen 1
    clear hs hf hbl hbz
    by_cases hk0 : k = 0
    · subst hk0
      have HE := Lib.hid (trim_end l 0 (Nat.zero_le _) (fun i h1 h2 => HS.out i h1 (by rw [← HN.out]; exact h2)) HD.out (.inl rfl))
      have HT := Lib.hid (HR.out.take_ HN.out hk)
      have hm0 : dval l = 0 := digs_nil HE.out.symm
      have HM0 := Lib.hid hm0
      clear hm0
      have a0 : wr.cell? ⟨w.heap.size + 1, 0, none⟩ = some (.bool false) := HBZ.out.cell 0
      have a1 : wr.cell? ⟨w.heap.size + 1, 1, none⟩ = some (.slice none 0 0) := HBZ.out.cell 1
      have g0 := HBZ.out.frozen 0
      have g1 := HBZ.out.frozen 1
      go_wp2_with fail
      have FF := ((HF.out.setCell ⟨w.heap.size, 0, none⟩ (fun h => absurd h (Nat.lt_irrefl _)) (.bool false)).setCell ⟨w.heap.size + 1, 0, none⟩ (fun h => absurd h (by simp)) (.bool false)).setCell ⟨w.heap.size + 1, 1, none⟩ (fun h => absurd h (by simp)) (.slice A 0 c)
      exact bodyPost_ret (v := .agg #[.bool false, .slice A 0 c]) (results_cell_row rfl _ _ (w.heap.size + 1) 83 _ (0, 0) _ rfl (((HBZ.out.far (by simp) _).set_ 0 (.bool false)).set_ 1 (.slice A 0 c)) Tryz.underlying83 rfl (by kernel_rfl)) rfl ⟨_, rfl, big_of (by
        have h := HT.out
        rw [HE.out] at h
        exact h.fr FF) (by rw [HM0.out, digs_zero]; rfl) (by rw [HM0.out]; simp), FF⟩
    · have hk0' : (0 : Int) < (k : Int) := by omega
      have hrw := HR.out.fr HF.out
      have hnc : n ≤ c := by
        have h := hrw
        unfold DRow at h
        rw [HN.out] at h
        exact row_le h
      have hkc : (k : Int) - 1 ≤ (c : Int) := by omega
      obtain ⟨ga, rfl, hck⟩ := hrw.at_ HN.out (k - 1) (by omega)
      obtain ⟨d, hd⟩ : ∃ d, l.getD (k - 1) 0 = d := ⟨_, rfl⟩
      rw [hd] at hck
      have HDD := Lib.hid hd
      clear hd hrw
      by_cases hz : d = 0
      · subst hz
        go_wp2_with fail
        go_roundg (k - 1)
        case measure => omega
        case rel => exact ⟨k - 1, by omega, by omega, HBL.out.set_ 1 _, HBZ.out.far (by simp) _, HF.out.setCell ⟨w.heap.size, 1, none⟩ (fun h => absurd h (Nat.lt_irrefl _)) _, fun i h1 h2 => by
          by_cases e : i = k - 1
          · rw [e]
            exact HDD.out
          · exact HS.out i (by omega) h2⟩
      · have hz' : ((d : Int) == 0) = false := by simp [hz]
        have HE := Lib.hid (trim_end l k (by rw [HN.out]; exact hk) (fun i h1 h2 => HS.out i h1 (by rw [← HN.out]; exact h2)) HD.out (.inr (by rw [HDD.out]; exact hz)))
        have HT := Lib.hid (HR.out.take_ HN.out hk)
        have HM0 := Lib.hid (show dval l ≠ 0 from fun e => by
          have h := HE.out
          rw [e, digs_zero] at h
          have h2 : (l.take k).length = k := by rw [List.length_take, Nat.min_eq_left (by rw [HN.out]; exact hk)]
          rw [h] at h2
          exact hk0 h2.symm)
        have a0 : wr.cell? ⟨w.heap.size + 1, 0, none⟩ = some (.bool false) := HBZ.out.cell 0
        have a1 : wr.cell? ⟨w.heap.size + 1, 1, none⟩ = some (.slice none 0 0) := HBZ.out.cell 1
        have g0 := HBZ.out.frozen 0
        have g1 := HBZ.out.frozen 1
        have hk1 : ((k : Int) == 0) = false := by simp [hk0]
        go_wp2_with fail
        have FF := (HF.out.setCell ⟨w.heap.size + 1, 0, none⟩ (fun h => absurd h (by simp)) (.bool b)).setCell ⟨w.heap.size + 1, 1, none⟩ (fun h => absurd h (by simp)) (.slice (some ⟨ga, 0, none⟩) k c)
        exact bodyPost_ret (v := .agg #[.bool b, .slice (some ⟨ga, 0, none⟩) k c]) (results_cell_row rfl _ _ (w.heap.size + 1) 83 _ (0, 0) _ rfl ((HBZ.out.set_ 0 (.bool b)).set_ 1 (.slice (some ⟨ga, 0, none⟩) k c)) Tryz.underlying83 rfl (by kernel_rfl)) rfl ⟨_, rfl, big_of (by
          have h := HT.out
          rw [HE.out] at h
          exact h.fr FF) (by rw [← HE.out, List.length_take, Nat.min_eq_left (by rw [HN.out]; exact hk)]) (by simp [HM0.out]), FF⟩

end Go.Proofs.YtflhmieeidnpgaaGreatDoor
