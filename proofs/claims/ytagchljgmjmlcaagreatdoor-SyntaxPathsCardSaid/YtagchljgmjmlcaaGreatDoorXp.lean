/- Texts of the proof, one behind the other: Ib, Ri. -/
import Derived.Test.YtagchljgmjmlcaaGreatDoorXo
import Derived.Test.YtagchljgmjmlcaaGreatDoorXc
import Derived.Test.YtagchljgmjmlcaaGreatDoorXk
import Derived.Test.YtagchljgmjmlcaaGreatDoorXm
import Derived.Deep.CutBlock
import Derived.Deep.RegionLawGrows
import Derived.Deep.Cut
import Derived.Deep.CutRange
import Derived.WalkKit
import Derived.WalkLawsBesides
import Derived.WalkSpells
import Derived.Deep.QuietTactic
import Derived.BigRegion
import Derived.BigQuiet
import Derived.Lib.Hide
import Derived.Outline
import Derived.Deep.AppendLies
import Derived.Deep.RegionLaw
import Derived.Deep.RegionWith
import Derived.Deep.RegionHeld3
import Derived.Deep.LoopGhost
import Derived.Deep.DeepFit
import Derived.Laws.ResultCell
import Derived.Laws.RangeAny
import Derived.Deep.MidRow
import Derived.StillTailTactics
import Derived.OpenShut
namespace Go.Proofs.YtagchljgmjmlcaaGreatDoor
set_option linter.unusedVariables false
open Go.RowKit Go
set_option maxRecDepth 100000
set_option maxHeartbeats 40000000

theorem results_c2' {P : Program} {fn : Func} {p c : Tmp} {ty : TypeId} (h : fn.results = #[.cell p ty, .tmp c]) (tmps : Array Value) (w : World) :
    (results fn tmps).run P w = ((asAddr (tmps.getD p undef)).run P w).andThen fun q w₁ => ((loadVar ty q).run P w₁).andThen fun v w₂ => .ok (.tuple #[v, tmps.getD c undef]) w₂ := by
 simp only [results, h]
 simp [Sem.run_bind, Result.andThen]
theorem results_c2 {P : Program} {fn : Func} {p c : Tmp} {ty : TypeId} (h : fn.results = #[.cell p ty, .tmp c]) (tmps : Array Value) (w : World) (g : Nat) (t : TypeId) (cs : Array Value) (fr : Nat × Nat) (ds : TypeDesc)
    (hp : tmps.getD p undef = .pointer (some ⟨g, 0, none⟩)) (hg : w.heap[g]? = some (.cells cs t fr))
    (hu : P.underlying ty = some ds) (hd : (match ds with | .struct _ | .array _ _ => true | _ => false) = true) (hi : (P.info? ty).map (·.size) = some cs.size) (vc : Value) (hc : tmps.getD c undef = vc) :
    (results fn tmps).run P w = .ok (.tuple #[.agg cs, vc]) w := by
 rw [results_c2' h, hp, hc]
 simp [asAddr, run_loadVar_row w g t ty cs fr ds hg hu hd hi]
theorem vParse_none {l : List UInt8} (h : unsign l = [] ∨ digB (unsign l) = false) : vParse l = (0, 1) := by
 unfold vParse
 rw [if_pos h]
/-- A row of digits. -/
def DRow (w : World) (B : Nat) (v : Value) (l : List Nat) : Prop := w.ownsRow B 3 1 v l.length (l.map fun d : Nat => Value.int .i64 (d : Int))
/-- A number of the document's. -/
def IsBig (w : World) (B : Nat) (v : Value) (n : Int) : Prop := ∃ A c, v = .agg #[.bool (decide (n < 0)), .slice A (digs n.natAbs).length c] ∧ DRow w B (.slice A (digs n.natAbs).length c) (digs n.natAbs)
theorem DRow.at_ {w : World} {B n c : Nat} {A : Option Addr} {l : List Nat} (h : DRow w B (.slice A n c) l) (hn : l.length = n) (i : Nat) (hi : i < n) : ∃ g, A = some ⟨g, 0, none⟩ ∧ w.cell? ⟨g, i, none⟩ = some (.int .i64 ((l.getD i 0 : Nat) : Int)) := by
 unfold DRow at h
 rw [hn] at h
 obtain ⟨g, rfl, _, _, _⟩ := row_form h (by omega)
 refine ⟨g, rfl, ?_⟩
 rw [World.ownsRow.cellAt h i (by omega), List.getElem?_map, List.getD_eq_getElem?_getD, List.getElem?_eq_getElem (by omega)]
 rfl
theorem DRow.fr {w w' : World} {B : Nat} {v : Value} {l : List Nat} (h : DRow w B v l) (hf : Fr (fun _ => False) w w') : DRow w' B v l := ownsRow_fr h hf (fun _ _ h => h)
theorem DRow.nil (w : World) (B : Nat) : DRow w B (.slice none 0 0) [] := World.ownsRow_nil _ _ _ _
theorem ownsRow_set {w : World} {B e size n : Nat} {v : Value} {xs : List Value} (h : w.ownsRow B e size v n xs) (g i : Nat) (hp : g < B) (u : Value) : (w.setCell ⟨g, i, none⟩ u).ownsRow B e size v n xs :=
 ownsRow_fr h (S := fun j => j = g) (Fr.setCell (S := fun j => j = g) (Fr.refl _ w) ⟨g, i, none⟩ (fun _ => rfl) u) (fun j hj e => absurd (h.lt j hj).1 (by omega))
/-- -1, 0, 1: how two are. -/
def cmpD (a b : Nat) : Int := if a < b then -1 else if b < a then 1 else 0
theorem tmod10 (x : Int) : (x.tmod 10).natAbs = x.natAbs % 10 ∧ (x.tdiv 10).natAbs = x.natAbs / 10 ∧ (0 ≤ x → 0 ≤ x.tmod 10 ∧ 0 ≤ x.tdiv 10) ∧ (x ≤ 0 → x.tmod 10 ≤ 0 ∧ x.tdiv 10 ≤ 0) := by
 by_cases h : 0 ≤ x
 · rw [Int.tmod_eq_emod_of_nonneg h, Int.tdiv_eq_ediv_of_nonneg h]
   omega
 · obtain ⟨y, rfl⟩ : ∃ y, x = -y := ⟨-x, by omega⟩
   rw [Int.neg_tmod, Int.neg_tdiv, Int.tmod_eq_emod_of_nonneg (by omega), Int.tdiv_eq_ediv_of_nonneg (by omega)]
   omega
theorem dof_any (n0 : Int) (h1 : -9223372036854775808 ≤ n0) (h2 : n0 ≤ 9223372036854775807) (w : World) :
    Calls Tryz.prog 148 #[.int .i64 n0] w fun e w' => ∃ v, e = .returned v ∧ IsBig w' w.heap.size v n0 ∧ Fr (fun _ => False) w w' := by
 obtain ⟨i3, hi3, hz30, hz31, hz32⟩ := info_parts info3
 obtain ⟨b, hb⟩ : ∃ b, decide (n0 < 0) = b := ⟨_, rfl⟩
 have HBB := Lib.hid hb
 have hR := (Blk.new w 189 #[.bool false, .slice none 0 0]).alloc (.cells #[.bool b, .slice none 0 0] 189)
 have HR := Lib.hid hR
 have hL := Blk.new (w.alloc (.cells #[.bool false, .slice none 0 0] 189)) 189 #[.bool b, .slice none 0 0]
 rw [show (w.alloc (.cells #[.bool false, .slice none 0 0] 189)).heap.size = w.heap.size + 1 by simp] at hL
 have HL := Lib.hid hL
 have hlen := digs_len 20 n0.natAbs (by omega)
 clear hR hL
 go_enter Tryz.func148, Tryz.ntmps148
 go_wp2_with fail
 go_loopw [0] (fun nv wr => ∃ (x : Int) (l : List Nat) (A : Option Addr) (c : Nat), nv = .int .i64 x ∧ -9223372036854775808 ≤ x ∧ x ≤ 9223372036854775807 ∧ (0 ≤ n0 → 0 ≤ x) ∧ (n0 ≤ 0 → x ≤ 0) ∧ digs n0.natAbs = l ++ digs x.natAbs ∧ Blk wr w.heap.size 189 #[.bool false, .slice none 0 0] ∧ Blk wr (w.heap.size + 1) 189 #[.bool b, .slice A l.length c] ∧ DRow wr (w.heap.size + 2) (.slice A l.length c) l ∧ Fr (fun _ => False) w wr ∧ w.heap.size + 2 ≤ wr.heap.size) (fun nv _ => (intOf nv).natAbs)
 case atStart => exact ⟨n0, [], none, 0, rfl, h1, h2, fun h => h, fun h => h, rfl, HR.out, HL.out, DRow.nil _ _, ((Fr.refl _ _).alloc _).alloc _, by simp⟩
 case round =>
  obtain ⟨x, l, A, c, rfl, hx1, hx2, hx3, hx4, hdl, hbr, hbl, hrow, hf, hsz⟩ := hrel
  have HF := Lib.hid hf
  have HBR := Lib.hid hbr
  have HBL := Lib.hid hbl
  have HROW := Lib.hid hrow
  have HDL := Lib.hid hdl
  have HX3 := Lib.hid hx3
  have HX4 := Lib.hid hx4
  obtain ⟨m1, m2, m3, m4⟩ := tmod10 x
  have b0 : wr.cell? ⟨w.heap.size + 1, 0, none⟩ = some (.bool b) := hbl.cell 0
  have b1 : wr.cell? ⟨w.heap.size + 1, 1, none⟩ = some (.slice A l.length c) := hbl.cell 1
  have f1 := hbl.frozen 1
  have hll : l.length ≤ 20 := by
   rw [hdl, List.length_append] at hlen
   omega
  clear hf hbr hbl hrow hx3 hx4
  by_cases hx0 : x = 0
  · have hx0' : (x != 0) = false := by simp [hx0]
    subst hx0
    rw [show digs (0 : Int).natAbs = [] from digs_zero, List.append_nil] at hdl
    have HDL := Lib.hid hdl
    have a0 : wr.cell? ⟨w.heap.size, 0, none⟩ = some (.bool false) := HBR.out.cell 0
    have a1 : wr.cell? ⟨w.heap.size, 1, none⟩ = some (.slice none 0 0) := HBR.out.cell 1
    have g0 := HBR.out.frozen 0
    have g1 := HBR.out.frozen 1
    clear hdl m1 m2 m3 m4
    go_wp2_with fail
    exact bodyPost_ret (v := .agg #[.bool b, .slice A l.length c]) (results_cell_row rfl _ _ w.heap.size 189 _ (0, 0) _ rfl ((HBR.out.set_ 0 (.bool b)).set_ 1 (.slice A l.length c)) Tryz.underlying189 rfl (by kernel_rfl)) rfl ⟨_, rfl, ⟨A, c, by rw [HBB.out, HDL.out], by
     rw [HDL.out]
     exact ownsRow_base (ownsRow_set (ownsRow_set HROW.out w.heap.size 0 (by omega) _) w.heap.size 1 (by omega) _) (by omega)⟩, (HF.out.setCell ⟨w.heap.size, 0, none⟩ (fun h => absurd h (Nat.lt_irrefl _)) _).setCell ⟨w.heap.size, 1, none⟩ (fun h => absurd h (Nat.lt_irrefl _)) _⟩
  · have hx0' : (x != 0) = true := by simp [hx0]
    rw [digs_pos (n := x.natAbs) (by omega)] at hdl
    have HDL := Lib.hid hdl
    clear hdl
    by_cases hn : x.tmod 10 < 0
    · go_wp2_with (at_builtin; refine wpList_append_own_at _ rfl _ _ 79 rfl (w.heap.size + 2) 3 i3 _ 1 8 Tryz.underlying79 hi3 hz30 hz31 hz32 rfl (by decide) _ l.length (l.map fun d : Nat => Value.int .i64 (d : Int)) (by rfl) (World.ownsRow.alloc HROW.out _) ⟨wr.heap.size, 0, none⟩ 1 1 [.int .i64 (-x.tmod 10)] (by rfl) rfl (World.news_of_block (heap_alloc_new wr _)) (by intro u hu; rw [List.mem_singleton] at hu; rw [hu]; rfl) (by unfold maxLen; omega) (by omega) (by simp; omega) ?_; intro v6 w6 hown6 hgr6 _ hat6; obtain ⟨A6, c6, hv6⟩ := row_shape hown6; subst hv6; have F6 : Fr (fun j => (Value.slice A l.length c).ownBlock = some j) wr w6 := ((Fr.refl _ _).alloc _).trans (Fr.of_grown hgr6) (fun _ _ h => h); have hbl6 := HBL.out.fr F6 (fun h => absurd (World.ownsRow.lt HROW.out _ h).1 (by omega)); have hbr6 := HBR.out.fr F6 (fun h => absurd (World.ownsRow.lt HROW.out _ h).1 (by omega)); have HO6 := Lib.hid hown6; have HBL6 := Lib.hid hbl6; have HBR6 := Lib.hid hbr6; have HF6 := Lib.hid (HF.out.trans F6 (fun j hj h => absurd (World.ownsRow.lt HROW.out j h).1 (by omega))); have hs6 := F6.size; have d1 := hbl6.cell 1; have e1 := hbl6.frozen 1; clear b0 b1 f1 hown6 hgr6 hat6 hbl6 hbr6 F6)
      go_roundw
      case rel => exact ⟨x.tdiv 10, l ++ [x.natAbs % 10], A6, c6, by go_num, by omega, by omega, fun h => (m3 (HX3.out h)).2, fun h => (m4 (HX4.out h)).2, by rw [HDL.out, m2, List.append_assoc]; rfl, HBR6.out.far (by simp) _, by rw [List.length_append]; exact HBL6.out.set_ 1 _, by
       have h := ownsRow_set HO6.out (w.heap.size + 1) 1 (by omega) (.slice A6 (l.length + 1) c6)
       unfold DRow
       rw [List.length_append, List.map_append]
       rw [show -x.tmod 10 = ((x.natAbs % 10 : Nat) : Int) by omega] at h
       exact h, HF6.out.setCell ⟨w.heap.size + 1, 1, none⟩ (fun h => absurd h (show ¬ w.heap.size + 1 < w.heap.size by omega)) _, by rw [show (w6.setCell ⟨w.heap.size + 1, 1, none⟩ (.slice A6 (l.length + 1) c6)).heap.size = w6.heap.size by simp [World.setCell]]; omega⟩
      case measure => simp only [intOf]; omega
    · go_wp2_with (at_builtin; refine wpList_append_own_at _ rfl _ _ 79 rfl (w.heap.size + 2) 3 i3 _ 1 8 Tryz.underlying79 hi3 hz30 hz31 hz32 rfl (by decide) _ l.length (l.map fun d : Nat => Value.int .i64 (d : Int)) (by rfl) (World.ownsRow.alloc HROW.out _) ⟨wr.heap.size, 0, none⟩ 1 1 [.int .i64 (x.tmod 10)] (by rfl) rfl (World.news_of_block (heap_alloc_new wr _)) (by intro u hu; rw [List.mem_singleton] at hu; rw [hu]; rfl) (by unfold maxLen; omega) (by omega) (by simp; omega) ?_; intro v6 w6 hown6 hgr6 _ hat6; obtain ⟨A6, c6, hv6⟩ := row_shape hown6; subst hv6; have F6 : Fr (fun j => (Value.slice A l.length c).ownBlock = some j) wr w6 := ((Fr.refl _ _).alloc _).trans (Fr.of_grown hgr6) (fun _ _ h => h); have hbl6 := HBL.out.fr F6 (fun h => absurd (World.ownsRow.lt HROW.out _ h).1 (by omega)); have hbr6 := HBR.out.fr F6 (fun h => absurd (World.ownsRow.lt HROW.out _ h).1 (by omega)); have HO6 := Lib.hid hown6; have HBL6 := Lib.hid hbl6; have HBR6 := Lib.hid hbr6; have HF6 := Lib.hid (HF.out.trans F6 (fun j hj h => absurd (World.ownsRow.lt HROW.out j h).1 (by omega))); have hs6 := F6.size; have d1 := hbl6.cell 1; have e1 := hbl6.frozen 1; clear b0 b1 f1 hown6 hgr6 hat6 hbl6 hbr6 F6)
      go_roundw
      case rel => exact ⟨x.tdiv 10, l ++ [x.natAbs % 10], A6, c6, by go_num, by omega, by omega, fun h => (m3 (HX3.out h)).2, fun h => (m4 (HX4.out h)).2, by rw [HDL.out, m2, List.append_assoc]; rfl, HBR6.out.far (by simp) _, by rw [List.length_append]; exact HBL6.out.set_ 1 _, by
       have h := ownsRow_set HO6.out (w.heap.size + 1) 1 (by omega) (.slice A6 (l.length + 1) c6)
       unfold DRow
       rw [List.length_append, List.map_append]
       rw [show x.tmod 10 = ((x.natAbs % 10 : Nat) : Int) by omega] at h
       exact h, HF6.out.setCell ⟨w.heap.size + 1, 1, none⟩ (fun h => absurd h (show ¬ w.heap.size + 1 < w.heap.size by omega)) _, by rw [show (w6.setCell ⟨w.heap.size + 1, 1, none⟩ (.slice A6 (l.length + 1) c6)).heap.size = w6.heap.size by simp [World.setCell]]; omega⟩
      case measure => simp only [intOf]; omega
/-- A number of a sign and a size. -/
def sgn (b : Bool) (m : Nat) : Int := if b = true then -(m : Int) else (m : Int)
theorem sgn_abs (b : Bool) (m : Nat) : (sgn b m).natAbs = m := by
 unfold sgn
 split <;> omega
theorem sgn_neg (b : Bool) (m : Nat) : decide (sgn b m < 0) = (b && !decide (m = 0)) := by
 unfold sgn
 cases b with
 | true =>
  rw [if_pos rfl, Bool.true_and, Bool.eq_iff_iff]
  simp only [decide_eq_true_eq, Bool.not_eq_true', decide_eq_false_iff_not]
  omega
 | false =>
  rw [if_neg (by decide), Bool.false_and, decide_eq_false_iff_not]
  omega
theorem DRow.take_ {w : World} {B n c : Nat} {A : Option Addr} {l : List Nat} (h : DRow w B (.slice A n c) l) (hn : l.length = n) {k : Nat} (hk : k ≤ n) : DRow w B (.slice A k c) (l.take k) := by
 unfold DRow at h ⊢
 rw [List.length_take, Nat.min_eq_left (by omega), List.map_take]
 rw [hn] at h
 rcases Nat.eq_zero_or_pos n with h0 | h0
 · obtain rfl : k = n := by omega
   rw [List.take_of_length_le (by simp; omega)]
   exact h
 · exact ownsRow_take h hk h0
theorem big_of {w : World} {B k c m : Nat} {A : Option Addr} {b b' : Bool} (h : DRow w B (.slice A k c) (digs m)) (hk : (digs m).length = k) (hb : b' = (b && !decide (m = 0))) : IsBig w B (.agg #[.bool b', .slice A k c]) (sgn b m) := by
 subst hk
 refine ⟨A, c, ?_, ?_⟩
 · rw [sgn_neg, sgn_abs, hb]
 · rw [sgn_abs]
   exact h
theorem trim_any (b : Bool) (B : Nat) (v : Value) (l : List Nat) (w : World) (hl : l.length ≤ 16384) (hd : ∀ d, d ∈ l → d < 10) (hr : DRow w B v l) :
    Calls Tryz.prog 119 #[.agg #[.bool b, v]] w fun e w' => ∃ v', e = .returned v' ∧ IsBig w' B v' (sgn b (dval l)) ∧ Fr (fun _ => False) w w' := by
 obtain ⟨A, c, rfl⟩ := row_shape hr
 obtain ⟨n, hn⟩ : ∃ n, l.length = n := ⟨_, rfl⟩
 rw [hn] at hr ⊢
 have HN := Lib.hid hn
 have HD := Lib.hid hd
 have HR := Lib.hid hr
 rw [hn] at hl
 have hl' : (n : Int) ≤ 16384 := by omega
 have hL := (Blk.new w 189 #[.bool b, .slice A n c]).alloc (.cells #[.bool false, .slice none 0 0] 189)
 have HL := Lib.hid hL
 have hZ := Blk.new (w.alloc (.cells #[.bool b, .slice A n c] 189)) 189 #[.bool false, .slice none 0 0]
 rw [show (w.alloc (.cells #[.bool b, .slice A n c] 189)).heap.size = w.heap.size + 1 by simp] at hZ
 have HZ := Lib.hid hZ
 have hblt : ∀ wy, Fr (fun _ => False) w wy → ∀ j : Nat, (Value.slice A n c).ownBlock = some j → j < w.heap.size := fun _ _ j hj => (World.ownsRow.lt hr j hj).2
 clear hL hZ hn hd hr
 go_enter Tryz.func119, Tryz.ntmps119
 go_wp2_with fail
 go_loopg [] (n) (fun g wr => ∃ k : Nat, k ≤ n ∧ k ≤ g ∧ Blk wr w.heap.size 189 #[.bool b, .slice A k c] ∧ Blk wr (w.heap.size + 1) 189 #[.bool false, .slice none 0 0] ∧ Fr (fun _ => False) w wr ∧ ∀ i, k ≤ i → i < n → l.getD i 0 = 0)
 case atStart => exact ⟨n, Nat.le_refl _, Nat.le_refl _, HL.out, HZ.out, ((Fr.refl _ _).alloc _).alloc _, fun i h1 h2 => absurd h2 (by omega)⟩
 case round =>
  obtain ⟨k, hk, hg, hbl, hbz, hf, hs⟩ := hrel
  have HF := Lib.hid hf
  have HBL := Lib.hid hbl
  have HBZ := Lib.hid hbz
  have HS := Lib.hid hs
  have b0 : wr.cell? ⟨w.heap.size, 0, none⟩ = some (.bool b) := hbl.cell 0
  have b1 : wr.cell? ⟨w.heap.size, 1, none⟩ = some (.slice A k c) := hbl.cell 1
  have f0 := hbl.frozen 0
  have f1 := hbl.frozen 1
  clear hs hf hbl hbz
  by_cases hk0 : k = 0
  · subst hk0
    have HE := Lib.hid (trim_end l 0 (Nat.zero_le _) (fun i h1 h2 => HS.out i h1 (by rw [← HN.out]; exact h2)) HD.out (.inl rfl))
    have HT := Lib.hid (HR.out.take_ HN.out hk)
    have hm0 : dval l = 0 := digs_nil HE.out.symm
    have HM0 := Lib.hid hm0
    clear hm0
    have a0 : wr.cell? ⟨w.heap.size + 1, 0, none⟩ = some (.bool false) := HBZ.out.cell 0
    have a1 : wr.cell? ⟨w.heap.size + 1, 1, none⟩ = some (.slice none 0 0) := HBZ.out.cell 1
    have g0 := HBZ.out.frozen 0
    have g1 := HBZ.out.frozen 1
    go_wp2_with fail
    have FF := ((HF.out.setCell ⟨w.heap.size, 0, none⟩ (fun h => absurd h (Nat.lt_irrefl _)) (.bool false)).setCell ⟨w.heap.size + 1, 0, none⟩ (fun h => absurd h (by simp)) (.bool false)).setCell ⟨w.heap.size + 1, 1, none⟩ (fun h => absurd h (by simp)) (.slice A 0 c)
    exact bodyPost_ret (v := .agg #[.bool false, .slice A 0 c]) (results_cell_row rfl _ _ (w.heap.size + 1) 189 _ (0, 0) _ rfl (((HBZ.out.far (by simp) _).set_ 0 (.bool false)).set_ 1 (.slice A 0 c)) Tryz.underlying189 rfl (by kernel_rfl)) rfl ⟨_, rfl, big_of (by
     have h := HT.out
     rw [HE.out] at h
     exact h.fr FF) (by rw [HM0.out, digs_zero]; rfl) (by rw [HM0.out]; simp), FF⟩
  · have hk0' : (0 : Int) < (k : Int) := by omega
    have hrw := HR.out.fr HF.out
    have hnc : n ≤ c := by
     have h := hrw
     unfold DRow at h
     rw [HN.out] at h
     exact row_le h
    have hkc : (k : Int) - 1 ≤ (c : Int) := by omega
    obtain ⟨ga, rfl, hck⟩ := hrw.at_ HN.out (k - 1) (by omega)
    obtain ⟨d, hd⟩ : ∃ d, l.getD (k - 1) 0 = d := ⟨_, rfl⟩
    rw [hd] at hck
    have HDD := Lib.hid hd
    clear hd hrw
    by_cases hz : d = 0
    · subst hz
      go_wp2_with fail
      go_roundg (k - 1)
      case measure => omega
      case rel => exact ⟨k - 1, by omega, by omega, HBL.out.set_ 1 _, HBZ.out.far (by simp) _, HF.out.setCell ⟨w.heap.size, 1, none⟩ (fun h => absurd h (Nat.lt_irrefl _)) _, fun i h1 h2 => by
       by_cases e : i = k - 1
       · rw [e]
         exact HDD.out
       · exact HS.out i (by omega) h2⟩
    · have hz' : ((d : Int) == 0) = false := by simp [hz]
      have HE := Lib.hid (trim_end l k (by rw [HN.out]; exact hk) (fun i h1 h2 => HS.out i h1 (by rw [← HN.out]; exact h2)) HD.out (.inr (by rw [HDD.out]; exact hz)))
      have HT := Lib.hid (HR.out.take_ HN.out hk)
      have HM0 := Lib.hid (show dval l ≠ 0 from fun e => by
       have h := HE.out
       rw [e, digs_zero] at h
       have h2 : (l.take k).length = k := by rw [List.length_take, Nat.min_eq_left (by rw [HN.out]; exact hk)]
       rw [h] at h2
       exact hk0 h2.symm)
      have a0 : wr.cell? ⟨w.heap.size + 1, 0, none⟩ = some (.bool false) := HBZ.out.cell 0
      have a1 : wr.cell? ⟨w.heap.size + 1, 1, none⟩ = some (.slice none 0 0) := HBZ.out.cell 1
      have g0 := HBZ.out.frozen 0
      have g1 := HBZ.out.frozen 1
      have hk1 : ((k : Int) == 0) = false := by simp [hk0]
      go_wp2_with fail
      have FF := (HF.out.setCell ⟨w.heap.size + 1, 0, none⟩ (fun h => absurd h (by simp)) (.bool b)).setCell ⟨w.heap.size + 1, 1, none⟩ (fun h => absurd h (by simp)) (.slice (some ⟨ga, 0, none⟩) k c)
      exact bodyPost_ret (v := .agg #[.bool b, .slice (some ⟨ga, 0, none⟩) k c]) (results_cell_row rfl _ _ (w.heap.size + 1) 189 _ (0, 0) _ rfl ((HBZ.out.set_ 0 (.bool b)).set_ 1 (.slice (some ⟨ga, 0, none⟩) k c)) Tryz.underlying189 rfl (by kernel_rfl)) rfl ⟨_, rfl, big_of (by
       have h := HT.out
       rw [HE.out] at h
       exact h.fr FF) (by rw [← HE.out, List.length_take, Nat.min_eq_left (by rw [HN.out]; exact hk)]) (by simp [HM0.out]), FF⟩
theorem sizes_any (B B' : Nat) (v v' : Value) (a b : List Nat) (w : World) (hla : a.length ≤ 16384) (hlb : b.length ≤ 16384) (ha : DRow w B v a) (hb : DRow w B' v' b) (hda : ∀ d, d ∈ a → d < 10) (hdb : ∀ d, d ∈ b → d < 10)
    (hlt : a.length < b.length → dval a < dval b) (hgt : b.length < a.length → dval b < dval a) :
    Calls Tryz.prog 149 #[v, v'] w fun e w' => e = .returned (.int .i64 (cmpD (dval a) (dval b))) ∧ Fr (fun _ => False) w w' := by
 obtain ⟨A, c, rfl⟩ := row_shape ha
 obtain ⟨A', c', rfl⟩ := row_shape hb
 have HA := Lib.hid ha
 have HB := Lib.hid hb
 have HDA := Lib.hid hda
 have HDB := Lib.hid hdb
 clear ha hb hda hdb
 by_cases hne : a.length = b.length
 · obtain ⟨n, hn⟩ : ∃ n, a.length = n := ⟨_, rfl⟩
   have HN := Lib.hid hn
   have HNB := Lib.hid (show b.length = n by omega)
   have hne' : (((n : Nat) : Int) != ((n : Nat) : Int)) = false := by simp
   rw [show b.length = n by omega, show a.length = n by omega]
   rw [hn] at hla
   clear hn hne hlb hlt hgt
   obtain ⟨r, hr⟩ : ∃ r, cmpD (dval a) (dval b) = r := ⟨_, rfl⟩
   have HR := Lib.hid hr
   rw [hr]
   clear hr
   go_enter Tryz.func149, Tryz.ntmps149
   go_wp2_with fail
   go_loopw [5] (fun iv wr => ∃ k : Nat, iv = .int .i64 ((k : Int) - 1) ∧ k ≤ n ∧ Fr (fun _ => False) w wr ∧ ∀ j, k ≤ j → j < n → a.getD j 0 = b.getD j 0) (fun iv _ => (intOf iv + 1).toNat)
   case atStart => exact ⟨n, rfl, Nat.le_refl _, Fr.refl _ _, fun j h1 h2 => absurd h2 (by omega)⟩
   case round =>
    obtain ⟨k, rfl, hk, hf, hs⟩ := hrel
    have HF := Lib.hid hf
    have HS := Lib.hid hs
    clear hs hf
    by_cases h0 : k = 0
    · subst h0
      have h0' : ¬ ((0 : Int) ≤ ((0 : Nat) : Int) - 1) := by decide
      have hre := HR.out
      rw [sizes_eq a b (by rw [HN.out, HNB.out]) (fun j hj => HS.out j (Nat.zero_le _) (by rw [← HN.out]; exact hj))] at hre
      have HRE := Lib.hid (show r = 0 by rw [← hre]; simp [cmpD])
      clear hre
      go_wp2_with fail
      go_ret
      exact ⟨by rw [HRE.out]; rfl, HF.out⟩
    · have h0' : (0 : Int) ≤ (k : Int) - 1 := by omega
      obtain ⟨ga, hA, hca⟩ := (HA.out.fr HF.out).at_ rfl (k - 1) (by rw [HN.out]; omega)
      obtain ⟨gb, hB, hcb⟩ := (HB.out.fr HF.out).at_ rfl (k - 1) (by rw [HNB.out]; omega)
      subst hA
      subst hB
      have hkk : ((k - 1 : Nat) : Int) = (k : Int) - 1 := by omega
      obtain ⟨x, hx⟩ : ∃ x, a.getD (k - 1) 0 = x := ⟨_, rfl⟩
      obtain ⟨y, hy⟩ : ∃ y, b.getD (k - 1) 0 = y := ⟨_, rfl⟩
      rw [hx] at hca
      rw [hy] at hcb
      have HX := Lib.hid hx
      have HY := Lib.hid hy
      clear hx hy
      by_cases hxy : x = y
      · have hxy' : ((x : Int) != (y : Int)) = false := by simp [hxy]
        have HXY := Lib.hid hxy
        clear hxy
        go_wp2_with fail
        go_big_quiet (fail)
        go_wp2_with fail
        go_roundw
        case rel => exact ⟨k - 1, by rw [hkk], by omega, HF.out.drewN _, fun j h1 h2 => by
         by_cases e : j = k - 1
         · rw [e, HX.out, HY.out, HXY.out]
         · exact HS.out j (by omega) h2⟩
        case measure => simp only [intOf]; omega
      · have hxy' : ((x : Int) != (y : Int)) = true := by simp; omega
        by_cases hlt : x < y
        · have hlt' : decide (x < y) = true := by simp [hlt]
          go_wp2_with fail
          go_big_quiet (fail)
          go_wp2_with fail
          go_big_quiet (fail)
          go_wp2_with fail
          go_ret
          have h := sizes_lt a b (k - 1) (by rw [HN.out, HNB.out]) (by rw [HN.out]; omega) HDA.out (fun j h1 h2 => HS.out j (by omega) (by rw [← HN.out]; exact h2)) (by rw [HX.out, HY.out]; exact hlt)
          exact ⟨by rw [← HR.out]; unfold cmpD; rw [if_pos h]; rfl, (HF.out.drewN _).drewN _⟩
        · have hlt' : decide (x < y) = false := by simp; omega
          go_wp2_with fail
          go_big_quiet (fail)
          go_wp2_with fail
          go_big_quiet (fail)
          go_wp2_with fail
          go_ret
          have h := sizes_lt b a (k - 1) (by rw [HN.out, HNB.out]) (by rw [HNB.out]; omega) HDB.out (fun j h1 h2 => (HS.out j (by omega) (by rw [← HNB.out]; exact h2)).symm) (by rw [HX.out, HY.out]; omega)
          exact ⟨by rw [← HR.out]; unfold cmpD; rw [if_neg (by omega), if_pos h]; rfl, (HF.out.drewN _).drewN _⟩
 · have hne' : (((a.length : Nat) : Int) != ((b.length : Nat) : Int)) = true := by simp; omega
   by_cases hlt2 : a.length < b.length
   · have hr : cmpD (dval a) (dval b) = -1 := by
      have := hlt hlt2
      simp [cmpD, this]
     rw [hr]
     have hl' : decide (a.length < b.length) = true := by simp [hlt2]
     clear hr hlt hgt
     go_enter Tryz.func149, Tryz.ntmps149
     go_wp2_with fail
     go_ret
     exact ⟨rfl, Fr.refl _ _⟩
   · have hr : cmpD (dval a) (dval b) = 1 := by
      have := hgt (by omega)
      simp [cmpD]
      omega
     rw [hr]
     have hl' : decide (a.length < b.length) = false := by simp; omega
     clear hr hlt hgt
     go_enter Tryz.func149, Tryz.ntmps149
     go_wp2_with fail
     go_ret
     exact ⟨rfl, Fr.refl _ _⟩
theorem IsBig.open_ {w : World} {B : Nat} {v : Value} {n : Int} (h : IsBig w B v n) : ∃ A c, v = .agg #[.bool (decide (n < 0)), .slice A (digs n.natAbs).length c] ∧ DRow w B (.slice A (digs n.natAbs).length c) (digs n.natAbs) := h
theorem IsBig.fr {w w' : World} {B : Nat} {v : Value} {n : Int} (h : IsBig w B v n) (hf : Fr (fun _ => False) w w') : IsBig w' B v n := by
 obtain ⟨A, c, h1, h2⟩ := h
 exact ⟨A, c, h1, h2.fr hf⟩
theorem cmp_le {m k : Nat} : (cmpD m k ≤ 0) ↔ m ≤ k := by
 unfold cmpD
 split
 · omega
 · split <;> omega
theorem fits_any (B : Nat) (x : Value) (a : Int) (w : World) (hla : (digs a.natAbs).length ≤ 16384) (ha : IsBig w B x a) :
    Calls Tryz.prog 120 #[x] w fun e w' => e = .returned (.bool (decide (-9223372036854775808 ≤ a ∧ a ≤ 9223372036854775807))) ∧ Fr (fun _ => False) w w' := by
 obtain ⟨A1, c1, rfl, hra⟩ := ha.open_
 obtain ⟨na, hna⟩ : ∃ n, (digs a.natAbs).length = n := ⟨_, rfl⟩
 rw [hna] at hra hla ⊢
 obtain ⟨sa, hsa⟩ : ∃ s, decide (a < 0) = s := ⟨_, rfl⟩
 rw [hsa]
 have HSA := Lib.hid hsa
 have HNA := Lib.hid hna
 have HRA := Lib.hid hra
 have HBA := Lib.hid (Blk.new w 189 #[.bool sa, .slice A1 na c1])
 have HLO := Lib.hid (fun wy => dof_any (-9223372036854775808) (by decide) (by decide) wy)
 have HHI := Lib.hid (fun wy => dof_any 9223372036854775807 (by decide) (by decide) wy)
 obtain ⟨res, hres⟩ : ∃ r, decide (-9223372036854775808 ≤ a ∧ a ≤ 9223372036854775807) = r := ⟨_, rfl⟩
 have HRES := Lib.hid hres
 rw [hres]
 clear hsa hna hra ha hres
 go_enter Tryz.func120, Tryz.ntmps120
 go_wp2_with fail
 with_reducible refine (HLO.out _).mono ?_
 rintro e w1 ⟨v1, rfl, hb1, hf1⟩
 have HF1 := Lib.hid (((Fr.refl (fun _ => False) w).alloc _).trans' hf1)
 obtain ⟨A2, c2, rfl, hr2⟩ := hb1.open_
 have HBA1 := Lib.hid (HBA.out.fr hf1 (fun h => h))
 have HR2 := Lib.hid hr2
 rw [show ((-9223372036854775808 : Int).natAbs) = 9223372036854775808 from rfl] at HR2 ⊢
 rw [show decide ((-9223372036854775808 : Int) < 0) = true from rfl]
 generalize hl2 : (digs 9223372036854775808).length = n2 at *
 have HL2 := Lib.hid hl2
 clear hf1 hb1 hr2 hl2
 go_wp2_with fail
 with_reducible refine (HHI.out _).mono ?_
 rintro e w2 ⟨v2, rfl, hb2, hf2⟩
 have HF2 := Lib.hid (HF1.out.trans' hf2)
 obtain ⟨A3, c3, rfl, hr3⟩ := hb2.open_
 have HBA2 := Lib.hid (HBA1.out.fr hf2 (fun h => h))
 have HR22 := Lib.hid (HR2.out.fr hf2)
 have HR3 := Lib.hid hr3
 rw [show ((9223372036854775807 : Int).natAbs) = 9223372036854775807 from rfl] at HR3 ⊢
 rw [show decide ((9223372036854775807 : Int) < 0) = false from rfl]
 generalize hl3 : (digs 9223372036854775807).length = n3 at *
 have HL3 := Lib.hid hl3
 clear hf2 hb2 hr3 hl3
 have b0 : w2.cell? ⟨w.heap.size, 0, none⟩ = some (.bool sa) := HBA2.out.cell 0
 have b1 : w2.cell? ⟨w.heap.size, 1, none⟩ = some (.slice A1 na c1) := HBA2.out.cell 1
 have hbl := HBA2.out.lt
 have FW : Fr (fun _ => False) w2 ((w2.alloc (.cells #[.bool true, .slice A2 n2 c2] 189)).alloc (.cells #[.bool false, .slice A3 n3 c3] 189)) := ((Fr.refl _ _).alloc _).alloc _
 have HFW := Lib.hid FW
 cases sa with
 | true =>
  have HSZ := Lib.hid (sizes_any B w.heap.size (.slice A1 na c1) (.slice A2 n2 c2) (digs a.natAbs) (digs 9223372036854775808) _ (by rw [HNA.out]; omega) (by have := digs_len 20 9223372036854775808 (by decide); omega) (HRA.out.fr (HF2.out.trans' FW)) (ownsRow_base (HR22.out.fr FW) (by simp)) (digs_lt _) (digs_lt _) (fun h => by rw [dval_digs, dval_digs]; exact digs_len_lt h) (fun h => by rw [dval_digs, dval_digs]; exact digs_len_lt h))
  rw [dval_digs, dval_digs] at HSZ
  obtain ⟨r, hr⟩ : ∃ r, cmpD a.natAbs 9223372036854775808 = r := ⟨_, rfl⟩
  rw [hr] at HSZ
  have hres : decide (r ≤ 0) = res := by
   rw [← HRES.out, ← hr, Bool.eq_iff_iff, decide_eq_true_eq, decide_eq_true_eq, cmp_le]
   have := of_decide_eq_true HSA.out
   omega
  have HRS := Lib.hid hres
  clear hr hres FW
  go_wp2_with fail
  refine HSZ.out.mono ?_
  rintro e w4 ⟨rfl, hf4⟩
  have HF4 := Lib.hid ((HF2.out.trans' HFW.out).trans' hf4)
  clear hf4
  go_wp2_with fail
  go_ret
  exact ⟨by rw [← HRS.out]; rfl, HF4.out⟩
 | false =>
  have HSZ := Lib.hid (sizes_any B w.heap.size (.slice A1 na c1) (.slice A3 n3 c3) (digs a.natAbs) (digs 9223372036854775807) _ (by rw [HNA.out]; omega) (by have := digs_len 20 9223372036854775807 (by decide); omega) (HRA.out.fr (HF2.out.trans' FW)) (ownsRow_base (HR3.out.fr FW) HF1.out.size) (digs_lt _) (digs_lt _) (fun h => by rw [dval_digs, dval_digs]; exact digs_len_lt h) (fun h => by rw [dval_digs, dval_digs]; exact digs_len_lt h))
  rw [dval_digs, dval_digs] at HSZ
  obtain ⟨r, hr⟩ : ∃ r, cmpD a.natAbs 9223372036854775807 = r := ⟨_, rfl⟩
  rw [hr] at HSZ
  have hres : decide (r ≤ 0) = res := by
   rw [← HRES.out, ← hr, Bool.eq_iff_iff, decide_eq_true_eq, decide_eq_true_eq, cmp_le]
   have := of_decide_eq_false HSA.out
   omega
  have HRS := Lib.hid hres
  clear hr hres FW
  go_wp2_with fail
  refine HSZ.out.mono ?_
  rintro e w4 ⟨rfl, hf4⟩
  have HF4 := Lib.hid ((HF2.out.trans' HFW.out).trans' hf4)
  clear hf4
  go_wp2_with fail
  go_ret
  exact ⟨by rw [← HRS.out]; rfl, HF4.out⟩
theorem unsign_sign {l : List UInt8} (h0 : 0 < l.length) (h : (l.getD 0 0).toNat = 43 ∨ (l.getD 0 0).toNat = 45) : unsign l = l.drop 1 := by
 cases l with
 | nil => simp at h0
 | cons c r =>
  show (if c.toNat = 43 ∨ c.toNat = 45 then r else c :: r) = r
  rw [if_pos (show c.toNat = 43 ∨ c.toNat = 45 from h)]
theorem unsign_plain {l : List UInt8} (h : ¬ ((l.getD 0 0).toNat = 43 ∨ (l.getD 0 0).toNat = 45)) : unsign l = l.drop 0 := by
 cases l with
 | nil => rfl
 | cons c r =>
  show (if c.toNat = 43 ∨ c.toNat = 45 then r else c :: r) = c :: r
  rw [if_neg (show ¬ (c.toNat = 43 ∨ c.toNat = 45) from h)]
theorem sval_sgn {l : List UInt8} (h0 : 0 < l.length) : sval l = sgn (decide ((l.getD 0 0).toNat = 45)) (dval (bdigs (unsign l))) := by
 have h := uvalF_digs (unsign l) 0
 cases l with
 | nil => simp at h0
 | cons c r =>
  unfold sval sgn
  have hc : (c :: r).head? = some 45 ↔ decide (((c :: r).getD 0 0).toNat = 45) = true := by
   simp only [List.head?_cons, Option.some.injEq, List.getD_cons_zero, decide_eq_true_eq]
   constructor
   · intro h
     rw [h]
     rfl
   · intro h
     apply UInt8.toNat_inj.1
     rw [h]
     rfl
  by_cases e : (c :: r).head? = some 45
  · rw [if_pos e, if_pos (hc.1 e)]
    omega
  · rw [if_neg e, if_neg (fun h => e (hc.2 h))]
    omega
theorem bdigs_step (l : List UInt8) (k : Nat) (h0 : 0 < k) (hk : k ≤ l.length) : bdigs (l.drop (k - 1)) = bdigs (l.drop k) ++ [(l.getD (k - 1) 0).toNat - 48] := by
 have e : l.drop (k - 1) = l.getD (k - 1) 0 :: l.drop k := by
  rw [List.drop_eq_getElem_cons (by omega), List.getD_eq_getElem?_getD, List.getElem?_eq_getElem (by omega), show k - 1 + 1 = k by omega]
  rfl
 rw [e]
 unfold bdigs
 rw [List.map_cons, List.reverse_cons]
theorem bdigs_len (l : List UInt8) : (bdigs l).length = l.length := by simp [bdigs]
theorem dig_off {l : List UInt8} {m k : Nat} (hm : m ≤ k) (hk : k < l.length) (h : ¬ (48 ≤ (l.getD k 0).toNat ∧ (l.getD k 0).toNat ≤ 57)) : digB (l.drop m) = false := by
 cases hd : digB (l.drop m) with
 | false => rfl
 | true =>
  refine absurd (digB_iff.1 hd (l.getD k 0) ?_) h
  rw [List.getD_eq_getElem?_getD, List.getElem?_eq_getElem hk]
  show l[k] ∈ _
  have : l[k] = (l.drop m)[k - m]'(by rw [List.length_drop]; omega) := by
   rw [List.getElem_drop]
   congr 1
   omega
  rw [this]
  exact List.getElem_mem _
theorem dig_all {l : List UInt8} {m : Nat} (h : ∀ j, m ≤ j → j < l.length → 48 ≤ (l.getD j 0).toNat ∧ (l.getD j 0).toNat ≤ 57) : digB (l.drop m) = true := by
 refine digB_iff.2 (fun b hb => ?_)
 obtain ⟨i, hi, rfl⟩ := List.getElem_of_mem hb
 rw [List.length_drop] at hi
 have := h (m + i) (by omega) (by omega)
 rw [List.getD_eq_getElem?_getD, List.getElem?_eq_getElem (by omega)] at this
 rw [List.getElem_drop]
 exact this
def ParsePost (v c : Int) (w : World) (e : Ending) (w' : World) : Prop := ∃ x, e = .returned (.tuple #[x, .int .i64 c]) ∧ IsBig w' w.heap.size x v ∧ Fr (fun _ => False) w w'
theorem big_zero (w : World) (B : Nat) : IsBig w B (.agg #[.bool false, .slice none 0 0]) 0 := ⟨none, 0, by rw [show digs (0 : Int).natAbs = [] from digs_zero]; rfl, by rw [show digs (0 : Int).natAbs = [] from digs_zero]; exact DRow.nil _ _⟩
theorem IsBig.set_ {w : World} {B : Nat} {v : Value} {n : Int} (h : IsBig w B v n) (g i : Nat) (hg : g < B) (u : Value) : IsBig (w.setCell ⟨g, i, none⟩ u) B v n := by
 obtain ⟨A, c, h1, h2⟩ := h
 exact ⟨A, c, h1, ownsRow_set h2 g i hg u⟩
theorem IsBig.base {w : World} {B B' : Nat} {v : Value} {n : Int} (h : IsBig w B v n) (hB : B' ≤ B) : IsBig w B' v n := by
 obtain ⟨A, c, h1, h2⟩ := h
 exact ⟨A, c, h1, ownsRow_base h2 hB⟩
theorem par_row (s : ByteArray) (n k : Nat) (ck : Int) (h0 : 0 < k) (hk : k ≤ s.data.toList.length) (hn : s.data.toList.length = n) (hc : ck = ((s.data.toList.getD (k - 1) 0).toNat : Int)) (hlo : 48 ≤ ck) {w : World} {B g cap : Nat}
    (h : w.ownsRow B 3 1 (.slice (some ⟨g, 0, none⟩) (n - k + 1) cap) (n - k + 1) (((bdigs (s.data.toList.drop k)).map fun d : Nat => Value.int .i64 (d : Int)) ++ [.int .i64 (ck - 48)])) :
    DRow w B (.slice (some ⟨g, 0, none⟩) (n - k + 1) cap) (bdigs (s.data.toList.drop (k - 1))) := by
 unfold DRow
 rw [bdigs_len, List.length_drop, hn, show n - (k - 1) = n - k + 1 by omega, bdigs_step _ k h0 hk, List.map_append, List.map_singleton, show (((s.data.toList.getD (k - 1) 0).toNat - 48 : Nat) : Int) = ck - 48 by omega]
 exact h
theorem dparse_any (s : ByteArray) (hs : s.size ≤ 16384) (w : World) : Calls Tryz.prog 92 #[.string s] w (ParsePost (vParse s.data.toList).1 (vParse s.data.toList).2 w) := by
 obtain ⟨i3, hi3, hz30, hz31, hz32⟩ := info_parts info3
 obtain ⟨v, c, hvc⟩ : ∃ v c, vParse s.data.toList = (v, c) := ⟨_, _, rfl⟩
 rw [hvc]
 have HVC := Lib.hid hvc
 dsimp only
 have hll : s.data.toList.length = s.size := by simp
 have HLL := Lib.hid hll
 obtain ⟨n, hn⟩ : ∃ n, s.size = n := ⟨_, rfl⟩
 have HN := Lib.hid hn
 have hR := (Blk.new w 189 #[.bool false, .slice none 0 0]).alloc (.cells #[.bool false, .slice none 0 0] 189)
 have HR := Lib.hid hR
 have hL := Blk.new (w.alloc (.cells #[.bool false, .slice none 0 0] 189)) 189 #[.bool false, .slice none 0 0]
 rw [show (w.alloc (.cells #[.bool false, .slice none 0 0] 189)).heap.size = w.heap.size + 1 by simp] at hL
 have HL := Lib.hid hL
 have HIX := Lib.hid (fun (i : Nat) (h : i < s.size) (w : World) => run_index_at h w)
 rw [hn] at hs
 have HRS := Lib.hid (fun (sg : Bool) => (Blk.new w 189 #[.bool false, .slice none 0 0]).alloc (.cells #[.bool sg, .slice none 0 0] 189))
 have HLS := Lib.hid (fun (sg : Bool) => show Blk ((w.alloc (.cells #[.bool false, .slice none 0 0] 189)).alloc (.cells #[.bool sg, .slice none 0 0] 189)) (w.heap.size + 1) 189 #[.bool sg, .slice none 0 0] from by
  have h := Blk.new (w.alloc (.cells #[.bool false, .slice none 0 0] 189)) 189 #[.bool sg, .slice none 0 0]
  rw [show (w.alloc (.cells #[.bool false, .slice none 0 0] 189)).heap.size = w.heap.size + 1 by simp] at h
  exact h)
 have FFX := Lib.hid (fun (sg : Bool) => ((Fr.refl (fun _ => False) w).alloc (.cells #[.bool false, .slice none 0 0] 189)).alloc (.cells #[.bool sg, .slice none 0 0] 189))
 clear hR hL hvc hll HR HL
 by_cases h0 : n = 0
 · subst h0
   have hn1 : (((0 : Nat) : Int) == 0) = true := rfl
   have hus : unsign s.data.toList = [] := by rw [List.eq_nil_of_length_eq_zero (l := s.data.toList) (by rw [HLL.out, HN.out])]; rfl
   have HUS := Lib.hid hus
   clear hus
   go_enter Tryz.func92, Tryz.ntmps92
   obtain ⟨rfl, rfl⟩ := Prod.mk.inj (HVC.out.symm.trans (vParse_none (.inl HUS.out)))
   go_wp2_with fail
   exact bodyPost_ret (v := .tuple #[.agg #[.bool false, .slice none 0 0], .int .i64 1]) (results_c2 rfl _ _ w.heap.size 189 _ (0, 0) _ rfl (HRS.out false) Tryz.underlying189 rfl (by kernel_rfl) _ rfl) rfl ⟨_, rfl, big_zero _ _, FFX.out false⟩
 · have hn0 : (0 : Int) < (n : Int) := by omega
   have hx0 : ∀ w, (Instr.index 9 (.string s) (.int .i64 0)).run Tryz.prog w = .ok (.int .u8 (byteAt s 0)) w := fun w => HIX.out 0 (by omega) w
   obtain ⟨b0, hb0⟩ : ∃ b, byteAt s 0 = b := ⟨_, rfl⟩
   rw [hb0] at hx0
   have hbn : b0 = ((s.data.toList.getD 0 0).toNat : Int) := by rw [← hb0]; rfl
   have HBN := Lib.hid hbn
   have hsz : (s.size : Int) = (n : Int) := by omega
   clear hb0 hbn hn
   by_cases hplus : b0 = 43
   · have hb1 : (b0 == 43) = true := by simp [hplus]
     have HUS := Lib.hid (unsign_sign (l := s.data.toList) (by rw [HLL.out, HN.out]; omega) (by have := HBN.out; omega))
     have hss := sval_sgn (l := s.data.toList) (by rw [HLL.out, HN.out]; omega)
     rw [HUS.out, show decide ((s.data.toList.getD 0 0).toNat = 45) = false by simp only [decide_eq_false_iff_not]; have := HBN.out; omega] at hss
     have HSV := Lib.hid hss.symm
     clear hss
     subst hplus
     by_cases hn1 : n = 1
     · subst hn1
       have HUN := Lib.hid (show unsign s.data.toList = [] by rw [HUS.out]; exact List.drop_of_length_le (by rw [HLL.out, HN.out]; exact Nat.le_refl _))
       go_enter Tryz.func92, Tryz.ntmps92
       obtain ⟨rfl, rfl⟩ := Prod.mk.inj (HVC.out.symm.trans (vParse_none (.inl HUN.out)))
       go_wp2_with fail
       exact bodyPost_ret (v := .tuple #[.agg #[.bool false, .slice none 0 0], .int .i64 1]) (results_c2 rfl _ _ w.heap.size 189 _ (0, 0) _ rfl (HRS.out false) Tryz.underlying189 rfl (by kernel_rfl) _ rfl) rfl ⟨_, rfl, big_zero _ _, FFX.out false⟩

     · have hn2 : ((n : Int) == 1) = false := by simp; omega
       go_enter Tryz.func92, Tryz.ntmps92
       go_wp2_with fail
       go_loopw [6] (fun iv wr => ∃ (k : Nat) (A : Option Addr) (cp : Nat), iv = .int .i64 ((k : Int) - 1) ∧ 1 ≤ k ∧ k ≤ n ∧ (∀ j, k ≤ j → j < n → 48 ≤ (s.data.toList.getD j 0).toNat ∧ (s.data.toList.getD j 0).toNat ≤ 57) ∧ Blk wr (w.heap.size + 1) 189 #[.bool false, .slice A (n - k) cp] ∧ DRow wr (w.heap.size + 2) (.slice A (n - k) cp) (bdigs (s.data.toList.drop k)) ∧ Blk wr w.heap.size 189 #[.bool false, .slice none 0 0] ∧ Fr (fun _ => False) w wr ∧ w.heap.size + 2 ≤ wr.heap.size) (fun iv _ => (intOf iv + 1).toNat)
       case atStart => exact ⟨n, none, 0, rfl, by omega, Nat.le_refl _, fun j h1 h2 => absurd h2 (by omega), by rw [Nat.sub_self]; exact HLS.out false, by rw [List.drop_of_length_le (by rw [HLL.out, HN.out]; exact Nat.le_refl _), Nat.sub_self]; exact DRow.nil _ _, HRS.out false, FFX.out false, by simp⟩
       case round =>
        obtain ⟨k, A, cp, rfl, hk1, hk2, hdg, hbl, hrow, hbr, hf, hsz2⟩ := hrel
        have HDG := Lib.hid hdg
        have HBL := Lib.hid hbl
        have HROW := Lib.hid hrow
        have HBR := Lib.hid hbr
        have HF := Lib.hid hf
        have b0' : wr.cell? ⟨w.heap.size + 1, 0, none⟩ = some (.bool false) := hbl.cell 0
        have b1' : wr.cell? ⟨w.heap.size + 1, 1, none⟩ = some (.slice A (n - k) cp) := hbl.cell 1
        have f0' := hbl.frozen 0
        have f1' := hbl.frozen 1
        have r0 : wr.cell? ⟨w.heap.size, 0, none⟩ = some (.bool false) := hbr.cell 0
        have r1 : wr.cell? ⟨w.heap.size, 1, none⟩ = some (.slice none 0 0) := hbr.cell 1
        have s0 := hbr.frozen 0
        have s1 := hbr.frozen 1
        clear hdg hbl hrow hbr hf
        by_cases hkf : k = 1
        · subst hkf
          have hall := dig_all (l := s.data.toList) (m := 1) (fun j h1 h2 => HDG.out j h1 (by rw [← HN.out, ← HLL.out]; exact h2))
          have hne : unsign s.data.toList ≠ [] := by
           rw [HUS.out]
           intro e
           have h := congrArg List.length e
           rw [List.length_drop, HLL.out, HN.out] at h
           simp only [List.length_nil] at h
           omega
          have hvp := vParse_val hne (by rw [HUS.out]; exact hall)
          rw [HVC.out] at hvp
          have hdl : (bdigs (s.data.toList.drop 1)).length ≤ 16384 := by
           rw [bdigs_len, List.length_drop, HLL.out, HN.out]
           omega
          have hnd : (digs (sval s.data.toList).natAbs).length ≤ 16384 := by
           rw [sval_abs, HUS.out]
           exact Nat.le_trans (digs_len _ _ (dval_lt _ (bdigs_lt hall))) hdl
          have htr := trim_any false (w.heap.size + 2) (.slice A (n - 1) cp) (bdigs (s.data.toList.drop 1)) wr hdl (bdigs_lt hall) HROW.out
          rw [HSV.out] at htr
          have HTR := Lib.hid htr
          have HVP := Lib.hid hvp
          have hlt8 : w.heap.size + 1 < wr.heap.size := by omega
          have hlt9 : w.heap.size < wr.heap.size := by omega
          clear htr hvp hne hall hdl
          generalize sval s.data.toList = sv at *
          have HFT := Lib.hid (fun wy v h => fits_any (w.heap.size + 2) v sv wy hnd h)
          obtain ⟨q, hq⟩ : ∃ q, decide (-9223372036854775808 ≤ sv ∧ sv ≤ 9223372036854775807) = q := ⟨_, rfl⟩
          rw [hq] at HFT
          have HQ := Lib.hid hq
          clear hq hnd
          go_wp2_with fail
          with_reducible refine HTR.out.mono ?_
          rintro e w1 ⟨v1, rfl, hbig, hf1⟩
          obtain ⟨A5, c5, rfl, hr5⟩ := hbig.open_
          have hbl1 := HBL.out.fr hf1 (fun h => h)
          have hbr1 := HBR.out.fr hf1 (fun h => h)
          have HBL1 := Lib.hid hbl1
          have HBR1 := Lib.hid hbr1
          have HR5 := Lib.hid hr5
          have HF1 := Lib.hid (HF.out.trans' hf1)
          have p0 := hbl1.cell 0
          have p1 := hbl1.cell 1
          have q0 := hbl1.frozen 0
          have q1 := hbl1.frozen 1
          simp only [List.getElem?_toArray, List.getElem?_cons_zero, List.getElem?_cons_succ] at p0 p1
          clear b0' b1' f0' f1' r0 r1 s0 s1 hbig hf1 hbl1 hbr1 hr5
          have HBG : Hid (IsBig ((w1.setCell ⟨w.heap.size + 1, 0, none⟩ (.bool (decide (sv < 0)))).setCell ⟨w.heap.size + 1, 1, none⟩ (.slice A5 (digs sv.natAbs).length c5)) (w.heap.size + 2) (.agg #[.bool (decide (sv < 0)), .slice A5 (digs sv.natAbs).length c5]) sv) := Lib.hid ⟨A5, c5, rfl, ownsRow_set (ownsRow_set HR5.out (w.heap.size + 1) 0 (by omega) _) (w.heap.size + 1) 1 (by omega) _⟩
          have HF2 := Lib.hid ((HF1.out.setCell ⟨w.heap.size + 1, 0, none⟩ (fun h => absurd h (by simp)) (.bool (decide (sv < 0)))).setCell ⟨w.heap.size + 1, 1, none⟩ (fun h => absurd h (by simp)) (.slice A5 (digs sv.natAbs).length c5))
          have HBL2 := Lib.hid (show Blk _ (w.heap.size + 1) 189 #[.bool (decide (sv < 0)), .slice A5 (digs sv.natAbs).length c5] from (HBL1.out.set_ 0 (.bool (decide (sv < 0)))).set_ 1 (.slice A5 (digs sv.natAbs).length c5))
          have HBR2 := Lib.hid ((HBR1.out.far (p := ⟨w.heap.size + 1, 0, none⟩) (by simp) (.bool (decide (sv < 0)))).far (p := ⟨w.heap.size + 1, 1, none⟩) (by simp) (.slice A5 (digs sv.natAbs).length c5))
          go_wp2_with fail
          with_reducible refine (HFT.out _ _ HBG.out).mono ?_
          rintro e w3 ⟨rfl, hf3⟩
          have hbl3 := HBL2.out.fr hf3 (fun h => h)
          have hbr3 := HBR2.out.fr hf3 (fun h => h)
          have HBR3 := Lib.hid hbr3
          have HF3 := Lib.hid (HF2.out.trans' hf3)
          have HBG3 := Lib.hid (HBG.out.fr hf3)
          have t0 := hbl3.cell 0
          have t1 := hbl3.cell 1
          have u0 := hbr3.cell 0
          have u1 := hbr3.cell 1
          have y0 := hbr3.frozen 0
          have y1 := hbr3.frozen 1
          simp only [List.getElem?_toArray, List.getElem?_cons_zero, List.getElem?_cons_succ] at t0 t1 u0 u1
          clear hbl3 hbr3 hf3 p0 p1 q0 q1
          cases q with
          | true =>
           have hvp := HVP.out
           rw [if_pos (of_decide_eq_true HQ.out)] at hvp
           obtain ⟨rfl, rfl⟩ := Prod.mk.inj hvp
           clear hvp
           go_wp2_with fail
           exact bodyPost_ret (v := .tuple #[.agg #[.bool (decide (v < 0)), .slice A5 (digs v.natAbs).length c5], .int .i64 0]) (results_c2 rfl _ _ w.heap.size 189 _ (0, 0) _ rfl (show Blk _ w.heap.size 189 #[.bool (decide (v < 0)), .slice A5 (digs v.natAbs).length c5] from (HBR3.out.set_ 0 (.bool (decide (v < 0)))).set_ 1 (.slice A5 (digs v.natAbs).length c5)) Tryz.underlying189 rfl (by kernel_rfl) _ rfl) rfl ⟨_, rfl, IsBig.base (IsBig.set_ (IsBig.set_ HBG3.out w.heap.size 0 (by omega) _) w.heap.size 1 (by omega) _) (by omega), ((HF3.out).setCell ⟨w.heap.size, 0, none⟩ (fun h => absurd h (Nat.lt_irrefl _)) (.bool (decide (v < 0)))).setCell ⟨w.heap.size, 1, none⟩ (fun h => absurd h (Nat.lt_irrefl _)) (.slice A5 (digs v.natAbs).length c5)⟩
          | false =>
           have hvp := HVP.out
           rw [if_neg (of_decide_eq_false HQ.out)] at hvp
           obtain ⟨rfl, rfl⟩ := Prod.mk.inj hvp
           clear hvp
           go_wp2_with fail
           exact bodyPost_ret (v := .tuple #[.agg #[.bool false, .slice none 0 0], .int .i64 9]) (results_c2 rfl _ _ w.heap.size 189 _ (0, 0) _ rfl (show Blk _ w.heap.size 189 #[.bool false, .slice none 0 0] from (HBR3.out.set_ 0 (.bool false)).set_ 1 (.slice none 0 0)) Tryz.underlying189 rfl (by kernel_rfl) _ rfl) rfl ⟨_, rfl, big_zero _ _, ((HF3.out).setCell ⟨w.heap.size, 0, none⟩ (fun h => absurd h (Nat.lt_irrefl _)) (.bool false)).setCell ⟨w.heap.size, 1, none⟩ (fun h => absurd h (Nat.lt_irrefl _)) (.slice none 0 0)⟩
        · have hkk : ((k - 1 : Nat) : Int) = (k : Int) - 1 := by omega
          have hge : (1 : Int) ≤ (k : Int) - 1 := by omega
          have hix : ∀ w, (Instr.index 9 (.string s) (.int .i64 ((k : Int) - 1))).run Tryz.prog w = .ok (.int .u8 (byteAt s (k - 1))) w := fun w => by
           have h := HIX.out (k - 1) (by omega) w
           rw [hkk] at h
           exact h
          obtain ⟨ck, hck⟩ : ∃ b, byteAt s (k - 1) = b := ⟨_, rfl⟩
          rw [hck] at hix
          have hcn : ck = ((s.data.toList.getD (k - 1) 0).toNat : Int) := by rw [← hck]; rfl
          have HCN := Lib.hid hcn
          have hc0 : 0 ≤ ck := by omega
          clear hck hcn
          by_cases hlo : ck < 48
          · obtain ⟨rfl, rfl⟩ := Prod.mk.inj (HVC.out.symm.trans (vParse_none (.inr (by rw [HUS.out]; exact dig_off (l := s.data.toList) (m := 1) (k := k - 1) (by omega) (by rw [HLL.out, HN.out]; omega) (by have := HCN.out; omega)))))
            go_wp2_with fail
            exact bodyPost_ret (v := .tuple #[.agg #[.bool false, .slice none 0 0], .int .i64 1]) (results_c2 rfl _ _ w.heap.size 189 _ (0, 0) _ rfl (show Blk _ w.heap.size 189 #[.bool false, .slice none 0 0] from ((HBR.out).set_ 0 (.bool false)).set_ 1 (.slice none 0 0)) Tryz.underlying189 rfl (by kernel_rfl) _ rfl) rfl ⟨_, rfl, big_zero _ _, ((HF.out).setCell ⟨w.heap.size, 0, none⟩ (fun h => absurd h (Nat.lt_irrefl _)) (.bool false)).setCell ⟨w.heap.size, 1, none⟩ (fun h => absurd h (Nat.lt_irrefl _)) (.slice none 0 0)⟩
          · by_cases hhi : 57 < ck
            · obtain ⟨rfl, rfl⟩ := Prod.mk.inj (HVC.out.symm.trans (vParse_none (.inr (by rw [HUS.out]; exact dig_off (l := s.data.toList) (m := 1) (k := k - 1) (by omega) (by rw [HLL.out, HN.out]; omega) (by have := HCN.out; omega)))))
              go_wp2_with fail
              exact bodyPost_ret (v := .tuple #[.agg #[.bool false, .slice none 0 0], .int .i64 1]) (results_c2 rfl _ _ w.heap.size 189 _ (0, 0) _ rfl (show Blk _ w.heap.size 189 #[.bool false, .slice none 0 0] from ((HBR.out).set_ 0 (.bool false)).set_ 1 (.slice none 0 0)) Tryz.underlying189 rfl (by kernel_rfl) _ rfl) rfl ⟨_, rfl, big_zero _ _, ((HF.out).setCell ⟨w.heap.size, 0, none⟩ (fun h => absurd h (Nat.lt_irrefl _)) (.bool false)).setCell ⟨w.heap.size, 1, none⟩ (fun h => absurd h (Nat.lt_irrefl _)) (.slice none 0 0)⟩
            · have hw : IntKind.u8.wrap (ck - 48) = ck - 48 := IntWalk.u8_in _ (by omega)
              have hw2 : IntKind.i64.wrap (ck - 48) = ck - 48 := IntWalk.i64_in _ (by omega)
              have h63 : n - k + 1 ≤ maxLen := (by unfold maxLen; omega)
              have hby : (n - k + 1) * 8 ≤ 140737488355328 := (by omega)
              have hne : (Value.slice A (n - k) cp).ownBlock ≠ some (w.heap.size + 1) := fun e => absurd (World.ownsRow.lt HROW.out _ e).1 (by omega)
              have hne0 : (Value.slice A (n - k) cp).ownBlock ≠ some w.heap.size := fun e => absurd (World.ownsRow.lt HROW.out _ e).1 (by omega)
              have hlb := bdigs_len (s.data.toList.drop k)
              rw [List.length_drop, HLL.out, HN.out] at hlb
              have HLB := Lib.hid hlb
              have hr0 := HROW.out
              unfold DRow at hr0
              rw [hlb] at hr0
              have HROW2 := Lib.hid hr0
              clear hlb hr0
              have hlt8 : w.heap.size + 1 < wr.heap.size := by omega
              have hlt9 : w.heap.size < wr.heap.size := by omega
              go_wp2_with fail
              go_region_law ((refine step_append_lies _ (by rfl) _ _ 79 (by rfl) (w.heap.size + 2) 3 i3 _ 1 8 Tryz.underlying79 hi3 hz30 hz31 hz32 rfl (by decide) (.slice A (n - k) cp) (n - k) ((bdigs (s.data.toList.drop k)).map fun d : Nat => Value.int .i64 (d : Int)) (by rfl) (by exact HROW2.out.alloc _) ⟨wr.heap.size, 0, none⟩ 1 1 [.int .i64 (ck - 48)] (by rfl) rfl (by exact World.news_of_block (heap_alloc_new wr _)) (by intro u hu; rw [List.mem_singleton] at hu; rw [hu]; rfl) (by decide) h63 hby (by simp; omega) (wr.heap.size + 1) (by simp) ?_; intro g cap w6 hown6 hgr6 hor6 hlt6; have hbl6 : Blk w6 (w.heap.size + 1) 189 _ := Blk.fr (w := (wr.alloc _).drew) (HBL.out.alloc _) (Fr.of_grown hgr6) hne; have d1 := hbl6.cell 1; have e1 := hbl6.frozen 1))
              all_goals
               have F6 : Fr (fun j => (Value.slice A (n - k) cp).ownBlock = some j) wr w6 := (((Fr.refl _ wr).alloc _).drew).trans (Fr.of_grown hgr6) (fun _ _ h => h)
               have HBR6 := Lib.hid (HBR.out.fr F6 hne0)
               have HBL6 := Lib.hid hbl6
               have HF6 := Lib.hid (HF.out.trans F6 (fun j hj h => absurd (World.ownsRow.lt HROW.out j h).1 (by omega)))
               have hsz6 := F6.size
               have HO6 := Lib.hid (par_row s n k ck (by omega) (by rw [HLL.out, HN.out]; exact hk2) (by rw [HLL.out, HN.out]) HCN.out (by omega) hown6)
               clear hown6 hgr6 hor6 hlt6 hbl6 d1 e1 F6
               go_wp2_with fail
               go_roundw
               case rel => exact ⟨k - 1, some ⟨g, 0, none⟩, cap, by rw [hkk], by omega, by omega, fun j h1 h2 => (by
                by_cases e : j = k - 1
                · rw [e]
                  have := HCN.out
                  omega
                · exact HDG.out j (by omega) h2), by rw [show n - (k - 1) = n - k + 1 by omega]; exact HBL6.out.set_ 1 _, by rw [show n - (k - 1) = n - k + 1 by omega]; exact ownsRow_set HO6.out (w.heap.size + 1) 1 (by omega) _, HBR6.out.far (by simp) _, HF6.out.setCell ⟨w.heap.size + 1, 1, none⟩ (fun h => absurd h (by simp)) _, by rw [show (w6.setCell ⟨w.heap.size + 1, 1, none⟩ (.slice (some ⟨g, 0, none⟩) (n - k + 1) cap)).heap.size = w6.heap.size by simp [World.setCell]]; omega⟩
               case measure => simp only [intOf]; omega
   · by_cases hminus : b0 = 45
     · have hb1 : (b0 == 43) = false := by simp [hplus]
       have HUS := Lib.hid (unsign_sign (l := s.data.toList) (by rw [HLL.out, HN.out]; omega) (by have := HBN.out; omega))
       have hss := sval_sgn (l := s.data.toList) (by rw [HLL.out, HN.out]; omega)
       rw [HUS.out, show decide ((s.data.toList.getD 0 0).toNat = 45) = true by simp only [decide_eq_true_eq]; have := HBN.out; omega] at hss
       have HSV := Lib.hid hss.symm
       clear hss
       subst hminus
       by_cases hn1 : n = 1
       · subst hn1
         have HUN := Lib.hid (show unsign s.data.toList = [] by rw [HUS.out]; exact List.drop_of_length_le (by rw [HLL.out, HN.out]; exact Nat.le_refl _))
         go_enter Tryz.func92, Tryz.ntmps92
         obtain ⟨rfl, rfl⟩ := Prod.mk.inj (HVC.out.symm.trans (vParse_none (.inl HUN.out)))
         go_wp2_with fail
         exact bodyPost_ret (v := .tuple #[.agg #[.bool false, .slice none 0 0], .int .i64 1]) (results_c2 rfl _ _ w.heap.size 189 _ (0, 0) _ rfl (HRS.out true) Tryz.underlying189 rfl (by kernel_rfl) _ rfl) rfl ⟨_, rfl, big_zero _ _, FFX.out true⟩

       · have hn2 : ((n : Int) == 1) = false := by simp; omega
         go_enter Tryz.func92, Tryz.ntmps92
         go_wp2_with fail
         go_loopw [6] (fun iv wr => ∃ (k : Nat) (A : Option Addr) (cp : Nat), iv = .int .i64 ((k : Int) - 1) ∧ 1 ≤ k ∧ k ≤ n ∧ (∀ j, k ≤ j → j < n → 48 ≤ (s.data.toList.getD j 0).toNat ∧ (s.data.toList.getD j 0).toNat ≤ 57) ∧ Blk wr (w.heap.size + 1) 189 #[.bool true, .slice A (n - k) cp] ∧ DRow wr (w.heap.size + 2) (.slice A (n - k) cp) (bdigs (s.data.toList.drop k)) ∧ Blk wr w.heap.size 189 #[.bool false, .slice none 0 0] ∧ Fr (fun _ => False) w wr ∧ w.heap.size + 2 ≤ wr.heap.size) (fun iv _ => (intOf iv + 1).toNat)
         case atStart => exact ⟨n, none, 0, rfl, by omega, Nat.le_refl _, fun j h1 h2 => absurd h2 (by omega), by rw [Nat.sub_self]; exact HLS.out true, by rw [List.drop_of_length_le (by rw [HLL.out, HN.out]; exact Nat.le_refl _), Nat.sub_self]; exact DRow.nil _ _, HRS.out true, FFX.out true, by simp⟩
         case round =>
          obtain ⟨k, A, cp, rfl, hk1, hk2, hdg, hbl, hrow, hbr, hf, hsz2⟩ := hrel
          have HDG := Lib.hid hdg
          have HBL := Lib.hid hbl
          have HROW := Lib.hid hrow
          have HBR := Lib.hid hbr
          have HF := Lib.hid hf
          have b0' : wr.cell? ⟨w.heap.size + 1, 0, none⟩ = some (.bool true) := hbl.cell 0
          have b1' : wr.cell? ⟨w.heap.size + 1, 1, none⟩ = some (.slice A (n - k) cp) := hbl.cell 1
          have f0' := hbl.frozen 0
          have f1' := hbl.frozen 1
          have r0 : wr.cell? ⟨w.heap.size, 0, none⟩ = some (.bool false) := hbr.cell 0
          have r1 : wr.cell? ⟨w.heap.size, 1, none⟩ = some (.slice none 0 0) := hbr.cell 1
          have s0 := hbr.frozen 0
          have s1 := hbr.frozen 1
          clear hdg hbl hrow hbr hf
          by_cases hkf : k = 1
          · subst hkf
            have hall := dig_all (l := s.data.toList) (m := 1) (fun j h1 h2 => HDG.out j h1 (by rw [← HN.out, ← HLL.out]; exact h2))
            have hne : unsign s.data.toList ≠ [] := by
             rw [HUS.out]
             intro e
             have h := congrArg List.length e
             rw [List.length_drop, HLL.out, HN.out] at h
             simp only [List.length_nil] at h
             omega
            have hvp := vParse_val hne (by rw [HUS.out]; exact hall)
            rw [HVC.out] at hvp
            have hdl : (bdigs (s.data.toList.drop 1)).length ≤ 16384 := by
             rw [bdigs_len, List.length_drop, HLL.out, HN.out]
             omega
            have hnd : (digs (sval s.data.toList).natAbs).length ≤ 16384 := by
             rw [sval_abs, HUS.out]
             exact Nat.le_trans (digs_len _ _ (dval_lt _ (bdigs_lt hall))) hdl
            have htr := trim_any true (w.heap.size + 2) (.slice A (n - 1) cp) (bdigs (s.data.toList.drop 1)) wr hdl (bdigs_lt hall) HROW.out
            rw [HSV.out] at htr
            have HTR := Lib.hid htr
            have HVP := Lib.hid hvp
            have hlt8 : w.heap.size + 1 < wr.heap.size := by omega
            have hlt9 : w.heap.size < wr.heap.size := by omega
            clear htr hvp hne hall hdl
            generalize sval s.data.toList = sv at *
            have HFT := Lib.hid (fun wy v h => fits_any (w.heap.size + 2) v sv wy hnd h)
            obtain ⟨q, hq⟩ : ∃ q, decide (-9223372036854775808 ≤ sv ∧ sv ≤ 9223372036854775807) = q := ⟨_, rfl⟩
            rw [hq] at HFT
            have HQ := Lib.hid hq
            clear hq hnd
            go_wp2_with fail
            with_reducible refine HTR.out.mono ?_
            rintro e w1 ⟨v1, rfl, hbig, hf1⟩
            obtain ⟨A5, c5, rfl, hr5⟩ := hbig.open_
            have hbl1 := HBL.out.fr hf1 (fun h => h)
            have hbr1 := HBR.out.fr hf1 (fun h => h)
            have HBL1 := Lib.hid hbl1
            have HBR1 := Lib.hid hbr1
            have HR5 := Lib.hid hr5
            have HF1 := Lib.hid (HF.out.trans' hf1)
            have p0 := hbl1.cell 0
            have p1 := hbl1.cell 1
            have q0 := hbl1.frozen 0
            have q1 := hbl1.frozen 1
            simp only [List.getElem?_toArray, List.getElem?_cons_zero, List.getElem?_cons_succ] at p0 p1
            clear b0' b1' f0' f1' r0 r1 s0 s1 hbig hf1 hbl1 hbr1 hr5
            have HBG : Hid (IsBig ((w1.setCell ⟨w.heap.size + 1, 0, none⟩ (.bool (decide (sv < 0)))).setCell ⟨w.heap.size + 1, 1, none⟩ (.slice A5 (digs sv.natAbs).length c5)) (w.heap.size + 2) (.agg #[.bool (decide (sv < 0)), .slice A5 (digs sv.natAbs).length c5]) sv) := Lib.hid ⟨A5, c5, rfl, ownsRow_set (ownsRow_set HR5.out (w.heap.size + 1) 0 (by omega) _) (w.heap.size + 1) 1 (by omega) _⟩
            have HF2 := Lib.hid ((HF1.out.setCell ⟨w.heap.size + 1, 0, none⟩ (fun h => absurd h (by simp)) (.bool (decide (sv < 0)))).setCell ⟨w.heap.size + 1, 1, none⟩ (fun h => absurd h (by simp)) (.slice A5 (digs sv.natAbs).length c5))
            have HBL2 := Lib.hid (show Blk _ (w.heap.size + 1) 189 #[.bool (decide (sv < 0)), .slice A5 (digs sv.natAbs).length c5] from (HBL1.out.set_ 0 (.bool (decide (sv < 0)))).set_ 1 (.slice A5 (digs sv.natAbs).length c5))
            have HBR2 := Lib.hid ((HBR1.out.far (p := ⟨w.heap.size + 1, 0, none⟩) (by simp) (.bool (decide (sv < 0)))).far (p := ⟨w.heap.size + 1, 1, none⟩) (by simp) (.slice A5 (digs sv.natAbs).length c5))
            go_wp2_with fail
            with_reducible refine (HFT.out _ _ HBG.out).mono ?_
            rintro e w3 ⟨rfl, hf3⟩
            have hbl3 := HBL2.out.fr hf3 (fun h => h)
            have hbr3 := HBR2.out.fr hf3 (fun h => h)
            have HBR3 := Lib.hid hbr3
            have HF3 := Lib.hid (HF2.out.trans' hf3)
            have HBG3 := Lib.hid (HBG.out.fr hf3)
            have t0 := hbl3.cell 0
            have t1 := hbl3.cell 1
            have u0 := hbr3.cell 0
            have u1 := hbr3.cell 1
            have y0 := hbr3.frozen 0
            have y1 := hbr3.frozen 1
            simp only [List.getElem?_toArray, List.getElem?_cons_zero, List.getElem?_cons_succ] at t0 t1 u0 u1
            clear hbl3 hbr3 hf3 p0 p1 q0 q1
            cases q with
            | true =>
             have hvp := HVP.out
             rw [if_pos (of_decide_eq_true HQ.out)] at hvp
             obtain ⟨rfl, rfl⟩ := Prod.mk.inj hvp
             clear hvp
             go_wp2_with fail
             exact bodyPost_ret (v := .tuple #[.agg #[.bool (decide (v < 0)), .slice A5 (digs v.natAbs).length c5], .int .i64 0]) (results_c2 rfl _ _ w.heap.size 189 _ (0, 0) _ rfl (show Blk _ w.heap.size 189 #[.bool (decide (v < 0)), .slice A5 (digs v.natAbs).length c5] from (HBR3.out.set_ 0 (.bool (decide (v < 0)))).set_ 1 (.slice A5 (digs v.natAbs).length c5)) Tryz.underlying189 rfl (by kernel_rfl) _ rfl) rfl ⟨_, rfl, IsBig.base (IsBig.set_ (IsBig.set_ HBG3.out w.heap.size 0 (by omega) _) w.heap.size 1 (by omega) _) (by omega), ((HF3.out).setCell ⟨w.heap.size, 0, none⟩ (fun h => absurd h (Nat.lt_irrefl _)) (.bool (decide (v < 0)))).setCell ⟨w.heap.size, 1, none⟩ (fun h => absurd h (Nat.lt_irrefl _)) (.slice A5 (digs v.natAbs).length c5)⟩
            | false =>
             have hvp := HVP.out
             rw [if_neg (of_decide_eq_false HQ.out)] at hvp
             obtain ⟨rfl, rfl⟩ := Prod.mk.inj hvp
             clear hvp
             go_wp2_with fail
             exact bodyPost_ret (v := .tuple #[.agg #[.bool false, .slice none 0 0], .int .i64 9]) (results_c2 rfl _ _ w.heap.size 189 _ (0, 0) _ rfl (show Blk _ w.heap.size 189 #[.bool false, .slice none 0 0] from (HBR3.out.set_ 0 (.bool false)).set_ 1 (.slice none 0 0)) Tryz.underlying189 rfl (by kernel_rfl) _ rfl) rfl ⟨_, rfl, big_zero _ _, ((HF3.out).setCell ⟨w.heap.size, 0, none⟩ (fun h => absurd h (Nat.lt_irrefl _)) (.bool false)).setCell ⟨w.heap.size, 1, none⟩ (fun h => absurd h (Nat.lt_irrefl _)) (.slice none 0 0)⟩
          · have hkk : ((k - 1 : Nat) : Int) = (k : Int) - 1 := by omega
            have hge : (1 : Int) ≤ (k : Int) - 1 := by omega
            have hix : ∀ w, (Instr.index 9 (.string s) (.int .i64 ((k : Int) - 1))).run Tryz.prog w = .ok (.int .u8 (byteAt s (k - 1))) w := fun w => by
             have h := HIX.out (k - 1) (by omega) w
             rw [hkk] at h
             exact h
            obtain ⟨ck, hck⟩ : ∃ b, byteAt s (k - 1) = b := ⟨_, rfl⟩
            rw [hck] at hix
            have hcn : ck = ((s.data.toList.getD (k - 1) 0).toNat : Int) := by rw [← hck]; rfl
            have HCN := Lib.hid hcn
            have hc0 : 0 ≤ ck := by omega
            clear hck hcn
            by_cases hlo : ck < 48
            · obtain ⟨rfl, rfl⟩ := Prod.mk.inj (HVC.out.symm.trans (vParse_none (.inr (by rw [HUS.out]; exact dig_off (l := s.data.toList) (m := 1) (k := k - 1) (by omega) (by rw [HLL.out, HN.out]; omega) (by have := HCN.out; omega)))))
              go_wp2_with fail
              exact bodyPost_ret (v := .tuple #[.agg #[.bool false, .slice none 0 0], .int .i64 1]) (results_c2 rfl _ _ w.heap.size 189 _ (0, 0) _ rfl (show Blk _ w.heap.size 189 #[.bool false, .slice none 0 0] from ((HBR.out).set_ 0 (.bool false)).set_ 1 (.slice none 0 0)) Tryz.underlying189 rfl (by kernel_rfl) _ rfl) rfl ⟨_, rfl, big_zero _ _, ((HF.out).setCell ⟨w.heap.size, 0, none⟩ (fun h => absurd h (Nat.lt_irrefl _)) (.bool false)).setCell ⟨w.heap.size, 1, none⟩ (fun h => absurd h (Nat.lt_irrefl _)) (.slice none 0 0)⟩
            · by_cases hhi : 57 < ck
              · obtain ⟨rfl, rfl⟩ := Prod.mk.inj (HVC.out.symm.trans (vParse_none (.inr (by rw [HUS.out]; exact dig_off (l := s.data.toList) (m := 1) (k := k - 1) (by omega) (by rw [HLL.out, HN.out]; omega) (by have := HCN.out; omega)))))
                go_wp2_with fail
                exact bodyPost_ret (v := .tuple #[.agg #[.bool false, .slice none 0 0], .int .i64 1]) (results_c2 rfl _ _ w.heap.size 189 _ (0, 0) _ rfl (show Blk _ w.heap.size 189 #[.bool false, .slice none 0 0] from ((HBR.out).set_ 0 (.bool false)).set_ 1 (.slice none 0 0)) Tryz.underlying189 rfl (by kernel_rfl) _ rfl) rfl ⟨_, rfl, big_zero _ _, ((HF.out).setCell ⟨w.heap.size, 0, none⟩ (fun h => absurd h (Nat.lt_irrefl _)) (.bool false)).setCell ⟨w.heap.size, 1, none⟩ (fun h => absurd h (Nat.lt_irrefl _)) (.slice none 0 0)⟩
              · have hw : IntKind.u8.wrap (ck - 48) = ck - 48 := IntWalk.u8_in _ (by omega)
                have hw2 : IntKind.i64.wrap (ck - 48) = ck - 48 := IntWalk.i64_in _ (by omega)
                have h63 : n - k + 1 ≤ maxLen := (by unfold maxLen; omega)
                have hby : (n - k + 1) * 8 ≤ 140737488355328 := (by omega)
                have hne : (Value.slice A (n - k) cp).ownBlock ≠ some (w.heap.size + 1) := fun e => absurd (World.ownsRow.lt HROW.out _ e).1 (by omega)
                have hne0 : (Value.slice A (n - k) cp).ownBlock ≠ some w.heap.size := fun e => absurd (World.ownsRow.lt HROW.out _ e).1 (by omega)
                have hlb := bdigs_len (s.data.toList.drop k)
                rw [List.length_drop, HLL.out, HN.out] at hlb
                have HLB := Lib.hid hlb
                have hr0 := HROW.out
                unfold DRow at hr0
                rw [hlb] at hr0
                have HROW2 := Lib.hid hr0
                clear hlb hr0
                have hlt8 : w.heap.size + 1 < wr.heap.size := by omega
                have hlt9 : w.heap.size < wr.heap.size := by omega
                go_wp2_with fail
                go_region_law ((refine step_append_lies _ (by rfl) _ _ 79 (by rfl) (w.heap.size + 2) 3 i3 _ 1 8 Tryz.underlying79 hi3 hz30 hz31 hz32 rfl (by decide) (.slice A (n - k) cp) (n - k) ((bdigs (s.data.toList.drop k)).map fun d : Nat => Value.int .i64 (d : Int)) (by rfl) (by exact HROW2.out.alloc _) ⟨wr.heap.size, 0, none⟩ 1 1 [.int .i64 (ck - 48)] (by rfl) rfl (by exact World.news_of_block (heap_alloc_new wr _)) (by intro u hu; rw [List.mem_singleton] at hu; rw [hu]; rfl) (by decide) h63 hby (by simp; omega) (wr.heap.size + 1) (by simp) ?_; intro g cap w6 hown6 hgr6 hor6 hlt6; have hbl6 : Blk w6 (w.heap.size + 1) 189 _ := Blk.fr (w := (wr.alloc _).drew) (HBL.out.alloc _) (Fr.of_grown hgr6) hne; have d1 := hbl6.cell 1; have e1 := hbl6.frozen 1))
                all_goals
                 have F6 : Fr (fun j => (Value.slice A (n - k) cp).ownBlock = some j) wr w6 := (((Fr.refl _ wr).alloc _).drew).trans (Fr.of_grown hgr6) (fun _ _ h => h)
                 have HBR6 := Lib.hid (HBR.out.fr F6 hne0)
                 have HBL6 := Lib.hid hbl6
                 have HF6 := Lib.hid (HF.out.trans F6 (fun j hj h => absurd (World.ownsRow.lt HROW.out j h).1 (by omega)))
                 have hsz6 := F6.size
                 have HO6 := Lib.hid (par_row s n k ck (by omega) (by rw [HLL.out, HN.out]; exact hk2) (by rw [HLL.out, HN.out]) HCN.out (by omega) hown6)
                 clear hown6 hgr6 hor6 hlt6 hbl6 d1 e1 F6
                 go_wp2_with fail
                 go_roundw
                 case rel => exact ⟨k - 1, some ⟨g, 0, none⟩, cap, by rw [hkk], by omega, by omega, fun j h1 h2 => (by
                  by_cases e : j = k - 1
                  · rw [e]
                    have := HCN.out
                    omega
                  · exact HDG.out j (by omega) h2), by rw [show n - (k - 1) = n - k + 1 by omega]; exact HBL6.out.set_ 1 _, by rw [show n - (k - 1) = n - k + 1 by omega]; exact ownsRow_set HO6.out (w.heap.size + 1) 1 (by omega) _, HBR6.out.far (by simp) _, HF6.out.setCell ⟨w.heap.size + 1, 1, none⟩ (fun h => absurd h (by simp)) _, by rw [show (w6.setCell ⟨w.heap.size + 1, 1, none⟩ (.slice (some ⟨g, 0, none⟩) (n - k + 1) cap)).heap.size = w6.heap.size by simp [World.setCell]]; omega⟩
                 case measure => simp only [intOf]; omega
     · have hb1 : (b0 == 43) = false := by simp [hplus]
       have hb2 : (b0 == 45) = false := by simp [hminus]
       have HUS := Lib.hid (unsign_plain (l := s.data.toList) (by have := HBN.out; omega))
       have hss := sval_sgn (l := s.data.toList) (by rw [HLL.out, HN.out]; omega)
       rw [HUS.out, show decide ((s.data.toList.getD 0 0).toNat = 45) = false by simp only [decide_eq_false_iff_not]; have := HBN.out; omega] at hss
       have HSV := Lib.hid hss.symm
       clear hss
       have hn1 : ((n : Int) == 0) = false := by simp [h0]
       go_enter Tryz.func92, Tryz.ntmps92
       go_wp2_with fail
       go_loopw [6] (fun iv wr => ∃ (k : Nat) (A : Option Addr) (cp : Nat), iv = .int .i64 ((k : Int) - 1) ∧ 0 ≤ k ∧ k ≤ n ∧ (∀ j, k ≤ j → j < n → 48 ≤ (s.data.toList.getD j 0).toNat ∧ (s.data.toList.getD j 0).toNat ≤ 57) ∧ Blk wr (w.heap.size + 1) 189 #[.bool false, .slice A (n - k) cp] ∧ DRow wr (w.heap.size + 2) (.slice A (n - k) cp) (bdigs (s.data.toList.drop k)) ∧ Blk wr w.heap.size 189 #[.bool false, .slice none 0 0] ∧ Fr (fun _ => False) w wr ∧ w.heap.size + 2 ≤ wr.heap.size) (fun iv _ => (intOf iv + 1).toNat)
       case atStart => exact ⟨n, none, 0, rfl, by omega, Nat.le_refl _, fun j h1 h2 => absurd h2 (by omega), by rw [Nat.sub_self]; exact HLS.out false, by rw [List.drop_of_length_le (by rw [HLL.out, HN.out]; exact Nat.le_refl _), Nat.sub_self]; exact DRow.nil _ _, HRS.out false, FFX.out false, by simp⟩
       case round =>
        obtain ⟨k, A, cp, rfl, hk1, hk2, hdg, hbl, hrow, hbr, hf, hsz2⟩ := hrel
        have HDG := Lib.hid hdg
        have HBL := Lib.hid hbl
        have HROW := Lib.hid hrow
        have HBR := Lib.hid hbr
        have HF := Lib.hid hf
        have b0' : wr.cell? ⟨w.heap.size + 1, 0, none⟩ = some (.bool false) := hbl.cell 0
        have b1' : wr.cell? ⟨w.heap.size + 1, 1, none⟩ = some (.slice A (n - k) cp) := hbl.cell 1
        have f0' := hbl.frozen 0
        have f1' := hbl.frozen 1
        have r0 : wr.cell? ⟨w.heap.size, 0, none⟩ = some (.bool false) := hbr.cell 0
        have r1 : wr.cell? ⟨w.heap.size, 1, none⟩ = some (.slice none 0 0) := hbr.cell 1
        have s0 := hbr.frozen 0
        have s1 := hbr.frozen 1
        clear hdg hbl hrow hbr hf
        by_cases hkf : k = 0
        · subst hkf
          have hall := dig_all (l := s.data.toList) (m := 0) (fun j h1 h2 => HDG.out j h1 (by rw [← HN.out, ← HLL.out]; exact h2))
          have hne : unsign s.data.toList ≠ [] := by
           rw [HUS.out]
           intro e
           have h := congrArg List.length e
           rw [List.length_drop, HLL.out, HN.out] at h
           simp only [List.length_nil] at h
           omega
          have hvp := vParse_val hne (by rw [HUS.out]; exact hall)
          rw [HVC.out] at hvp
          have hdl : (bdigs (s.data.toList.drop 0)).length ≤ 16384 := by
           rw [bdigs_len, List.length_drop, HLL.out, HN.out]
           omega
          have hnd : (digs (sval s.data.toList).natAbs).length ≤ 16384 := by
           rw [sval_abs, HUS.out]
           exact Nat.le_trans (digs_len _ _ (dval_lt _ (bdigs_lt hall))) hdl
          have htr := trim_any false (w.heap.size + 2) (.slice A (n) cp) (bdigs (s.data.toList.drop 0)) wr hdl (bdigs_lt hall) HROW.out
          rw [HSV.out] at htr
          have HTR := Lib.hid htr
          have HVP := Lib.hid hvp
          have hlt8 : w.heap.size + 1 < wr.heap.size := by omega
          have hlt9 : w.heap.size < wr.heap.size := by omega
          clear htr hvp hne hall hdl
          generalize sval s.data.toList = sv at *
          have HFT := Lib.hid (fun wy v h => fits_any (w.heap.size + 2) v sv wy hnd h)
          obtain ⟨q, hq⟩ : ∃ q, decide (-9223372036854775808 ≤ sv ∧ sv ≤ 9223372036854775807) = q := ⟨_, rfl⟩
          rw [hq] at HFT
          have HQ := Lib.hid hq
          clear hq hnd
          go_wp2_with fail
          with_reducible refine HTR.out.mono ?_
          rintro e w1 ⟨v1, rfl, hbig, hf1⟩
          obtain ⟨A5, c5, rfl, hr5⟩ := hbig.open_
          have hbl1 := HBL.out.fr hf1 (fun h => h)
          have hbr1 := HBR.out.fr hf1 (fun h => h)
          have HBL1 := Lib.hid hbl1
          have HBR1 := Lib.hid hbr1
          have HR5 := Lib.hid hr5
          have HF1 := Lib.hid (HF.out.trans' hf1)
          have p0 := hbl1.cell 0
          have p1 := hbl1.cell 1
          have q0 := hbl1.frozen 0
          have q1 := hbl1.frozen 1
          simp only [List.getElem?_toArray, List.getElem?_cons_zero, List.getElem?_cons_succ] at p0 p1
          clear b0' b1' f0' f1' r0 r1 s0 s1 hbig hf1 hbl1 hbr1 hr5
          have HBG : Hid (IsBig ((w1.setCell ⟨w.heap.size + 1, 0, none⟩ (.bool (decide (sv < 0)))).setCell ⟨w.heap.size + 1, 1, none⟩ (.slice A5 (digs sv.natAbs).length c5)) (w.heap.size + 2) (.agg #[.bool (decide (sv < 0)), .slice A5 (digs sv.natAbs).length c5]) sv) := Lib.hid ⟨A5, c5, rfl, ownsRow_set (ownsRow_set HR5.out (w.heap.size + 1) 0 (by omega) _) (w.heap.size + 1) 1 (by omega) _⟩
          have HF2 := Lib.hid ((HF1.out.setCell ⟨w.heap.size + 1, 0, none⟩ (fun h => absurd h (by simp)) (.bool (decide (sv < 0)))).setCell ⟨w.heap.size + 1, 1, none⟩ (fun h => absurd h (by simp)) (.slice A5 (digs sv.natAbs).length c5))
          have HBL2 := Lib.hid (show Blk _ (w.heap.size + 1) 189 #[.bool (decide (sv < 0)), .slice A5 (digs sv.natAbs).length c5] from (HBL1.out.set_ 0 (.bool (decide (sv < 0)))).set_ 1 (.slice A5 (digs sv.natAbs).length c5))
          have HBR2 := Lib.hid ((HBR1.out.far (p := ⟨w.heap.size + 1, 0, none⟩) (by simp) (.bool (decide (sv < 0)))).far (p := ⟨w.heap.size + 1, 1, none⟩) (by simp) (.slice A5 (digs sv.natAbs).length c5))
          go_wp2_with fail
          with_reducible refine (HFT.out _ _ HBG.out).mono ?_
          rintro e w3 ⟨rfl, hf3⟩
          have hbl3 := HBL2.out.fr hf3 (fun h => h)
          have hbr3 := HBR2.out.fr hf3 (fun h => h)
          have HBR3 := Lib.hid hbr3
          have HF3 := Lib.hid (HF2.out.trans' hf3)
          have HBG3 := Lib.hid (HBG.out.fr hf3)
          have t0 := hbl3.cell 0
          have t1 := hbl3.cell 1
          have u0 := hbr3.cell 0
          have u1 := hbr3.cell 1
          have y0 := hbr3.frozen 0
          have y1 := hbr3.frozen 1
          simp only [List.getElem?_toArray, List.getElem?_cons_zero, List.getElem?_cons_succ] at t0 t1 u0 u1
          clear hbl3 hbr3 hf3 p0 p1 q0 q1
          cases q with
          | true =>
           have hvp := HVP.out
           rw [if_pos (of_decide_eq_true HQ.out)] at hvp
           obtain ⟨rfl, rfl⟩ := Prod.mk.inj hvp
           clear hvp
           go_wp2_with fail
           exact bodyPost_ret (v := .tuple #[.agg #[.bool (decide (v < 0)), .slice A5 (digs v.natAbs).length c5], .int .i64 0]) (results_c2 rfl _ _ w.heap.size 189 _ (0, 0) _ rfl (show Blk _ w.heap.size 189 #[.bool (decide (v < 0)), .slice A5 (digs v.natAbs).length c5] from (HBR3.out.set_ 0 (.bool (decide (v < 0)))).set_ 1 (.slice A5 (digs v.natAbs).length c5)) Tryz.underlying189 rfl (by kernel_rfl) _ rfl) rfl ⟨_, rfl, IsBig.base (IsBig.set_ (IsBig.set_ HBG3.out w.heap.size 0 (by omega) _) w.heap.size 1 (by omega) _) (by omega), ((HF3.out).setCell ⟨w.heap.size, 0, none⟩ (fun h => absurd h (Nat.lt_irrefl _)) (.bool (decide (v < 0)))).setCell ⟨w.heap.size, 1, none⟩ (fun h => absurd h (Nat.lt_irrefl _)) (.slice A5 (digs v.natAbs).length c5)⟩
          | false =>
           have hvp := HVP.out
           rw [if_neg (of_decide_eq_false HQ.out)] at hvp
           obtain ⟨rfl, rfl⟩ := Prod.mk.inj hvp
           clear hvp
           go_wp2_with fail
           exact bodyPost_ret (v := .tuple #[.agg #[.bool false, .slice none 0 0], .int .i64 9]) (results_c2 rfl _ _ w.heap.size 189 _ (0, 0) _ rfl (show Blk _ w.heap.size 189 #[.bool false, .slice none 0 0] from (HBR3.out.set_ 0 (.bool false)).set_ 1 (.slice none 0 0)) Tryz.underlying189 rfl (by kernel_rfl) _ rfl) rfl ⟨_, rfl, big_zero _ _, ((HF3.out).setCell ⟨w.heap.size, 0, none⟩ (fun h => absurd h (Nat.lt_irrefl _)) (.bool false)).setCell ⟨w.heap.size, 1, none⟩ (fun h => absurd h (Nat.lt_irrefl _)) (.slice none 0 0)⟩
        · have hkk : ((k - 1 : Nat) : Int) = (k : Int) - 1 := by omega
          have hge : (0 : Int) ≤ (k : Int) - 1 := by omega
          have hix : ∀ w, (Instr.index 9 (.string s) (.int .i64 ((k : Int) - 1))).run Tryz.prog w = .ok (.int .u8 (byteAt s (k - 1))) w := fun w => by
           have h := HIX.out (k - 1) (by omega) w
           rw [hkk] at h
           exact h
          obtain ⟨ck, hck⟩ : ∃ b, byteAt s (k - 1) = b := ⟨_, rfl⟩
          rw [hck] at hix
          have hcn : ck = ((s.data.toList.getD (k - 1) 0).toNat : Int) := by rw [← hck]; rfl
          have HCN := Lib.hid hcn
          have hc0 : 0 ≤ ck := by omega
          clear hck hcn
          by_cases hlo : ck < 48
          · obtain ⟨rfl, rfl⟩ := Prod.mk.inj (HVC.out.symm.trans (vParse_none (.inr (by rw [HUS.out]; exact dig_off (l := s.data.toList) (m := 0) (k := k - 1) (by omega) (by rw [HLL.out, HN.out]; omega) (by have := HCN.out; omega)))))
            go_wp2_with fail
            exact bodyPost_ret (v := .tuple #[.agg #[.bool false, .slice none 0 0], .int .i64 1]) (results_c2 rfl _ _ w.heap.size 189 _ (0, 0) _ rfl (show Blk _ w.heap.size 189 #[.bool false, .slice none 0 0] from ((HBR.out).set_ 0 (.bool false)).set_ 1 (.slice none 0 0)) Tryz.underlying189 rfl (by kernel_rfl) _ rfl) rfl ⟨_, rfl, big_zero _ _, ((HF.out).setCell ⟨w.heap.size, 0, none⟩ (fun h => absurd h (Nat.lt_irrefl _)) (.bool false)).setCell ⟨w.heap.size, 1, none⟩ (fun h => absurd h (Nat.lt_irrefl _)) (.slice none 0 0)⟩
          · by_cases hhi : 57 < ck
            · obtain ⟨rfl, rfl⟩ := Prod.mk.inj (HVC.out.symm.trans (vParse_none (.inr (by rw [HUS.out]; exact dig_off (l := s.data.toList) (m := 0) (k := k - 1) (by omega) (by rw [HLL.out, HN.out]; omega) (by have := HCN.out; omega)))))
              go_wp2_with fail
              exact bodyPost_ret (v := .tuple #[.agg #[.bool false, .slice none 0 0], .int .i64 1]) (results_c2 rfl _ _ w.heap.size 189 _ (0, 0) _ rfl (show Blk _ w.heap.size 189 #[.bool false, .slice none 0 0] from ((HBR.out).set_ 0 (.bool false)).set_ 1 (.slice none 0 0)) Tryz.underlying189 rfl (by kernel_rfl) _ rfl) rfl ⟨_, rfl, big_zero _ _, ((HF.out).setCell ⟨w.heap.size, 0, none⟩ (fun h => absurd h (Nat.lt_irrefl _)) (.bool false)).setCell ⟨w.heap.size, 1, none⟩ (fun h => absurd h (Nat.lt_irrefl _)) (.slice none 0 0)⟩
            · have hw : IntKind.u8.wrap (ck - 48) = ck - 48 := IntWalk.u8_in _ (by omega)
              have hw2 : IntKind.i64.wrap (ck - 48) = ck - 48 := IntWalk.i64_in _ (by omega)
              have h63 : n - k + 1 ≤ maxLen := (by unfold maxLen; omega)
              have hby : (n - k + 1) * 8 ≤ 140737488355328 := (by omega)
              have hne : (Value.slice A (n - k) cp).ownBlock ≠ some (w.heap.size + 1) := fun e => absurd (World.ownsRow.lt HROW.out _ e).1 (by omega)
              have hne0 : (Value.slice A (n - k) cp).ownBlock ≠ some w.heap.size := fun e => absurd (World.ownsRow.lt HROW.out _ e).1 (by omega)
              have hlb := bdigs_len (s.data.toList.drop k)
              rw [List.length_drop, HLL.out, HN.out] at hlb
              have HLB := Lib.hid hlb
              have hr0 := HROW.out
              unfold DRow at hr0
              rw [hlb] at hr0
              have HROW2 := Lib.hid hr0
              clear hlb hr0
              have hlt8 : w.heap.size + 1 < wr.heap.size := by omega
              have hlt9 : w.heap.size < wr.heap.size := by omega
              go_wp2_with fail
              go_region_law ((refine step_append_lies _ (by rfl) _ _ 79 (by rfl) (w.heap.size + 2) 3 i3 _ 1 8 Tryz.underlying79 hi3 hz30 hz31 hz32 rfl (by decide) (.slice A (n - k) cp) (n - k) ((bdigs (s.data.toList.drop k)).map fun d : Nat => Value.int .i64 (d : Int)) (by rfl) (by exact HROW2.out.alloc _) ⟨wr.heap.size, 0, none⟩ 1 1 [.int .i64 (ck - 48)] (by rfl) rfl (by exact World.news_of_block (heap_alloc_new wr _)) (by intro u hu; rw [List.mem_singleton] at hu; rw [hu]; rfl) (by decide) h63 hby (by simp; omega) (wr.heap.size + 1) (by simp) ?_; intro g cap w6 hown6 hgr6 hor6 hlt6; have hbl6 : Blk w6 (w.heap.size + 1) 189 _ := Blk.fr (w := (wr.alloc _).drew) (HBL.out.alloc _) (Fr.of_grown hgr6) hne; have d1 := hbl6.cell 1; have e1 := hbl6.frozen 1))
              all_goals
               have F6 : Fr (fun j => (Value.slice A (n - k) cp).ownBlock = some j) wr w6 := (((Fr.refl _ wr).alloc _).drew).trans (Fr.of_grown hgr6) (fun _ _ h => h)
               have HBR6 := Lib.hid (HBR.out.fr F6 hne0)
               have HBL6 := Lib.hid hbl6
               have HF6 := Lib.hid (HF.out.trans F6 (fun j hj h => absurd (World.ownsRow.lt HROW.out j h).1 (by omega)))
               have hsz6 := F6.size
               have HO6 := Lib.hid (par_row s n k ck (by omega) (by rw [HLL.out, HN.out]; exact hk2) (by rw [HLL.out, HN.out]) HCN.out (by omega) hown6)
               clear hown6 hgr6 hor6 hlt6 hbl6 d1 e1 F6
               go_wp2_with fail
               go_roundw
               case rel => exact ⟨k - 1, some ⟨g, 0, none⟩, cap, by rw [hkk], by omega, by omega, fun j h1 h2 => (by
                by_cases e : j = k - 1
                · rw [e]
                  have := HCN.out
                  omega
                · exact HDG.out j (by omega) h2), by rw [show n - (k - 1) = n - k + 1 by omega]; exact HBL6.out.set_ 1 _, by rw [show n - (k - 1) = n - k + 1 by omega]; exact ownsRow_set HO6.out (w.heap.size + 1) 1 (by omega) _, HBR6.out.far (by simp) _, HF6.out.setCell ⟨w.heap.size + 1, 1, none⟩ (fun h => absurd h (by simp)) _, by rw [show (w6.setCell ⟨w.heap.size + 1, 1, none⟩ (.slice (some ⟨g, 0, none⟩) (n - k + 1) cap)).heap.size = w6.heap.size by simp [World.setCell]]; omega⟩
               case measure => simp only [intOf]; omega

/-- An integer, or none: told weakly. -/
def IntPost (rs : List Int) (p : Nat) (w : World) (e : Ending) (w' : World) : Prop :=
 ∃ (s : ByteArray) (E : Int), e = .returned (.tuple #[.string s, .int .i64 E]) ∧ s.size ≤ 8100 ∧ (E = -1 ∨ ∃ q : Nat, E = (q : Int) ∧ p < q ∧ q ≤ rs.length ∧ (2 ≤ q → EndP rs q)) ∧ Fr (fun _ => False) w w'
theorem two_end {rs : List Int} {q : Nat} (h : rClass (peekOf rs (q - 1)) = 2) (h2 : 2 ≤ q) : EndP rs q :=
 .of h2 rfl (fun e => by rw [e] at h; exact absurd h (by decide)) (fun e => by rw [e] at h; exact absurd h (by decide))

theorem rint_any (b : Bool) (g c p : Nat) (rs : List Int) (w : World) (hl : rs.length ≤ 8100) (hw : wt rs ≤ 8100) (hv : ∀ r, r ∈ rs → signR r = true) (hp : p ≤ rs.length) (h : Ls w g c rs) :
    Calls Tryz.prog 63 #[.slice (some ⟨g, 0, none⟩) rs.length c, .int .i64 (p : Int), .bool b] w (IntPost rs p w) := by
 have HB := Lib.hid (rblanks_any g c p rs w hl hv hp h)
 have hle := skip_le rs [0] (rs.length - p) p (Nat.le_refl _) hp
 have hcap := h.cap
 have hp0 : ¬ ((p : Int) < 0) := by omega
 generalize skip rs [0] p = f at *
 have HST := Lib.hid (stands_any g c f 45 rs w (by decide) (by decide) (by omega) h)
 have HS := Lib.hid h
 have HV := Lib.hid hv
 have HC := Lib.hid (fun i w1 => rclass_any (peekOf rs i) w1)
 have HSUB := Lib.hid (fun q (h1 : f ≤ q) (h2 : q ≤ rs.length) => sub_text (p := f) (q := q) h1 h2 hcap HS.out HV.out hl)
 have HSZ := Lib.hid (fun q => show (strL (part rs f q)).size ≤ 8100 by rw [strL_wt]; exact Nat.le_trans (wt_part rs f q) hw)
 clear h hv hw
 cases b with
 | false =>
  go_enter Tryz.func63, Tryz.ntmps63
  go_wp2_with fail
  refine HB.out.mono ?_
  rintro e w1 ⟨rfl, rfl⟩
  go_wp2_with fail
  go_loopg [9] (rs.length) (fun gk a wr => ∃ i : Nat, a = .int .i64 (i : Int) ∧ rs.length ≤ i + gk ∧ f ≤ i ∧ i ≤ rs.length ∧ (f < i → rClass (peekOf rs (i - 1)) = 2) ∧ w = wr)
  case atStart => exact ⟨f, rfl, by omega, Nat.le_refl _, by omega, fun h => absurd h (Nat.lt_irrefl _), rfl⟩
  case round =>
   obtain ⟨i, rfl, hg, hfi, hi, hcl, rfl⟩ := hrel
   have HCL := Lib.hid hcl
   clear hcl
   by_cases hc : i < rs.length ∧ rClass (peekOf rs i) = 2
   · have hil := hc.1
     have c0 := HS.out.cell hil
     have HCC := Lib.hid (HC.out i w)
     have HK := Lib.hid hc.2
     have hi0 : ¬ ((i : Int) < 0) := by omega
     rw [hc.2] at HCC
     clear hc
     generalize hx : peekOf rs i = x at c0 HCC
     clear hx
     go_wp2_with fail
     refine HCC.out.mono ?_
     rintro e w2 ⟨rfl, rfl⟩
     go_wp2_with fail
     go_roundg (rs.length - (i + 1))
     case measure => omega
     case rel => exact ⟨i + 1, rfl, by omega, by omega, by omega, fun _ => HK.out, rfl⟩
   · by_cases hF : f = i
     · have hF2 : (i : Int) = (f : Int) := by omega
       by_cases hil : i < rs.length
       · have c0 := HS.out.cell hil
         have HCC := Lib.hid (HC.out i w)
         have hk : (rClass (peekOf rs i) == 2) = false := by simpa using fun e => hc ⟨hil, e⟩
         have hi0 : ¬ ((i : Int) < 0) := by omega
         clear hc
         generalize rClass (peekOf rs i) = k at *
         generalize peekOf rs i = x at c0 HCC
         go_wp2_with fail
         refine HCC.out.mono ?_
         rintro e w2 ⟨rfl, rfl⟩
         go_wp2_with fail
         go_ret2
         exact ⟨⟨#[]⟩, -1, rfl, by decide, .inl rfl, Fr.refl _ _⟩
       · clear hc
         go_wp2_with fail
         go_ret2
         exact ⟨⟨#[]⟩, -1, rfl, by decide, .inl rfl, Fr.refl _ _⟩
     · have hF2 : ¬ ((i : Int) = (f : Int)) := by omega
       have HPI := Lib.hid (show p < i ∧ i ≤ rs.length ∧ (2 ≤ i → EndP rs i) from ⟨by omega, hi, two_end (HCL.out (by omega))⟩)
       have hs := HSUB.out i (by omega) hi
       have hsz := HSZ.out i
       generalize strL (part rs f i) = s at *
       have HSI := Lib.hid hs
       have HSS := Lib.hid hsz
       have HD := Lib.hid (fun w1 => dparse_any s (by omega) w1)
       unfold ParsePost at HD
       clear hs hsz
       by_cases hil : i < rs.length
       · have c0 := HS.out.cell hil
         have HCC := Lib.hid (HC.out i w)
         have hk : (rClass (peekOf rs i) == 2) = false := by simpa using fun e => hc ⟨hil, e⟩
         have hi0 : ¬ ((i : Int) < 0) := by omega
         clear hc
         generalize rClass (peekOf rs i) = k at *
         generalize peekOf rs i = x at c0 HCC
         go_wp2_with fail
         refine HCC.out.mono ?_
         rintro e w2 ⟨rfl, rfl⟩
         go_wp2_with fail
         all_goals (
          refine (HSI.out _ _ (by omega) (by omega)).mono ?_
          rintro e w3 ⟨rfl, hf3⟩
          have HF3 := Lib.hid hf3
          clear hf3
          go_wp2_with fail
          refine (HD.out w3).mono ?_
          rintro e w4 ⟨x, rfl, hx, hf4⟩
          obtain ⟨A5, c5, rfl, _⟩ := hx.open_
          have HF4 := Lib.hid ((HF3.out.trans' hf4).alloc (.cells #[.bool (decide ((vParse s.data.toList).1 < 0)), .slice A5 (digs (vParse s.data.toList).1.natAbs).length c5] 189))
          clear hf4 hx
          generalize (vParse s.data.toList).2 = code at *
          generalize decide ((vParse s.data.toList).1 < 0) = bb at *
          generalize (digs (vParse s.data.toList).1.natAbs).length = n5 at *
          by_cases h0 : code = 0
          · go_wp2_with fail
            go_ret2
            exact ⟨s, _, rfl, HSS.out, .inr ⟨i, rfl, HPI.out⟩, HF4.out⟩
          · have h0' : (code != 0) = true := by simpa using h0
            go_wp2_with fail
            go_ret2
            exact ⟨⟨#[]⟩, -1, rfl, by decide, .inl rfl, HF4.out⟩)
       · clear hc
         go_wp2_with fail
         all_goals (
          refine (HSI.out _ _ (by omega) (by omega)).mono ?_
          rintro e w3 ⟨rfl, hf3⟩
          have HF3 := Lib.hid hf3
          clear hf3
          go_wp2_with fail
          refine (HD.out w3).mono ?_
          rintro e w4 ⟨x, rfl, hx, hf4⟩
          obtain ⟨A5, c5, rfl, _⟩ := hx.open_
          have HF4 := Lib.hid ((HF3.out.trans' hf4).alloc (.cells #[.bool (decide ((vParse s.data.toList).1 < 0)), .slice A5 (digs (vParse s.data.toList).1.natAbs).length c5] 189))
          clear hf4 hx
          generalize (vParse s.data.toList).2 = code at *
          generalize decide ((vParse s.data.toList).1 < 0) = bb at *
          generalize (digs (vParse s.data.toList).1.natAbs).length = n5 at *
          by_cases h0 : code = 0
          · go_wp2_with fail
            go_ret2
            exact ⟨s, _, rfl, HSS.out, .inr ⟨i, rfl, HPI.out⟩, HF4.out⟩
          · have h0' : (code != 0) = true := by simpa using h0
            go_wp2_with fail
            go_ret2
            exact ⟨⟨#[]⟩, -1, rfl, by decide, .inl rfl, HF4.out⟩)
 | true =>
  by_cases h45 : peekOf rs f = 45
  · have hfl : f < rs.length := peek_lt (by rw [h45]; decide)
    rw [h45] at HST
    go_enter Tryz.func63, Tryz.ntmps63
    go_wp2_with fail
    refine HB.out.mono ?_
    rintro e w1 ⟨rfl, rfl⟩
    go_wp2_with fail
    refine HST.out.mono ?_
    rintro e w1 ⟨rfl, rfl⟩
    go_wp2_with fail
    go_loopg [9] (rs.length) (fun gk a wr => ∃ i : Nat, a = .int .i64 (i : Int) ∧ rs.length ≤ i + gk ∧ (f + 1) ≤ i ∧ i ≤ rs.length ∧ ((f + 1) < i → rClass (peekOf rs (i - 1)) = 2) ∧ w = wr)
    case atStart => exact ⟨(f + 1), rfl, by omega, Nat.le_refl _, by omega, fun h => absurd h (Nat.lt_irrefl _), rfl⟩
    case round =>
     obtain ⟨i, rfl, hg, hfi, hi, hcl, rfl⟩ := hrel
     have HCL := Lib.hid hcl
     clear hcl
     by_cases hc : i < rs.length ∧ rClass (peekOf rs i) = 2
     · have hil := hc.1
       have c0 := HS.out.cell hil
       have HCC := Lib.hid (HC.out i w)
       have HK := Lib.hid hc.2
       have hi0 : ¬ ((i : Int) < 0) := by omega
       rw [hc.2] at HCC
       clear hc
       generalize hx : peekOf rs i = x at c0 HCC
       clear hx
       go_wp2_with fail
       refine HCC.out.mono ?_
       rintro e w2 ⟨rfl, rfl⟩
       go_wp2_with fail
       go_roundg (rs.length - (i + 1))
       case measure => omega
       case rel => exact ⟨i + 1, rfl, by omega, by omega, by omega, fun _ => HK.out, rfl⟩
     · by_cases hF : (f + 1) = i
       · have hF2 : (i : Int) = ((f : Int) + 1) := by omega
         by_cases hil : i < rs.length
         · have c0 := HS.out.cell hil
           have HCC := Lib.hid (HC.out i w)
           have hk : (rClass (peekOf rs i) == 2) = false := by simpa using fun e => hc ⟨hil, e⟩
           have hi0 : ¬ ((i : Int) < 0) := by omega
           clear hc
           generalize rClass (peekOf rs i) = k at *
           generalize peekOf rs i = x at c0 HCC
           go_wp2_with fail
           refine HCC.out.mono ?_
           rintro e w2 ⟨rfl, rfl⟩
           go_wp2_with fail
           go_ret2
           exact ⟨⟨#[]⟩, -1, rfl, by decide, .inl rfl, Fr.refl _ _⟩
         · clear hc
           go_wp2_with fail
           go_ret2
           exact ⟨⟨#[]⟩, -1, rfl, by decide, .inl rfl, Fr.refl _ _⟩
       · have hF2 : ¬ ((i : Int) = ((f : Int) + 1)) := by omega
         have HPI := Lib.hid (show p < i ∧ i ≤ rs.length ∧ (2 ≤ i → EndP rs i) from ⟨by omega, hi, two_end (HCL.out (by omega))⟩)
         have hs := HSUB.out i (by omega) hi
         have hsz := HSZ.out i
         generalize strL (part rs f i) = s at *
         have HSI := Lib.hid hs
         have HSS := Lib.hid hsz
         have HD := Lib.hid (fun w1 => dparse_any s (by omega) w1)
         unfold ParsePost at HD
         clear hs hsz
         by_cases hil : i < rs.length
         · have c0 := HS.out.cell hil
           have HCC := Lib.hid (HC.out i w)
           have hk : (rClass (peekOf rs i) == 2) = false := by simpa using fun e => hc ⟨hil, e⟩
           have hi0 : ¬ ((i : Int) < 0) := by omega
           clear hc
           generalize rClass (peekOf rs i) = k at *
           generalize peekOf rs i = x at c0 HCC
           go_wp2_with fail
           refine HCC.out.mono ?_
           rintro e w2 ⟨rfl, rfl⟩
           go_wp2_with fail
           all_goals (
            refine (HSI.out _ _ (by omega) (by omega)).mono ?_
            rintro e w3 ⟨rfl, hf3⟩
            have HF3 := Lib.hid hf3
            clear hf3
            go_wp2_with fail
            refine (HD.out w3).mono ?_
            rintro e w4 ⟨x, rfl, hx, hf4⟩
            obtain ⟨A5, c5, rfl, _⟩ := hx.open_
            have HF4 := Lib.hid ((HF3.out.trans' hf4).alloc (.cells #[.bool (decide ((vParse s.data.toList).1 < 0)), .slice A5 (digs (vParse s.data.toList).1.natAbs).length c5] 189))
            clear hf4 hx
            generalize (vParse s.data.toList).2 = code at *
            generalize decide ((vParse s.data.toList).1 < 0) = bb at *
            generalize (digs (vParse s.data.toList).1.natAbs).length = n5 at *
            by_cases h0 : code = 0
            · go_wp2_with fail
              go_ret2
              exact ⟨s, _, rfl, HSS.out, .inr ⟨i, rfl, HPI.out⟩, HF4.out⟩
            · have h0' : (code != 0) = true := by simpa using h0
              go_wp2_with fail
              go_ret2
              exact ⟨⟨#[]⟩, -1, rfl, by decide, .inl rfl, HF4.out⟩)
         · clear hc
           go_wp2_with fail
           all_goals (
            refine (HSI.out _ _ (by omega) (by omega)).mono ?_
            rintro e w3 ⟨rfl, hf3⟩
            have HF3 := Lib.hid hf3
            clear hf3
            go_wp2_with fail
            refine (HD.out w3).mono ?_
            rintro e w4 ⟨x, rfl, hx, hf4⟩
            obtain ⟨A5, c5, rfl, _⟩ := hx.open_
            have HF4 := Lib.hid ((HF3.out.trans' hf4).alloc (.cells #[.bool (decide ((vParse s.data.toList).1 < 0)), .slice A5 (digs (vParse s.data.toList).1.natAbs).length c5] 189))
            clear hf4 hx
            generalize (vParse s.data.toList).2 = code at *
            generalize decide ((vParse s.data.toList).1 < 0) = bb at *
            generalize (digs (vParse s.data.toList).1.natAbs).length = n5 at *
            by_cases h0 : code = 0
            · go_wp2_with fail
              go_ret2
              exact ⟨s, _, rfl, HSS.out, .inr ⟨i, rfl, HPI.out⟩, HF4.out⟩
            · have h0' : (code != 0) = true := by simpa using h0
              go_wp2_with fail
              go_ret2
              exact ⟨⟨#[]⟩, -1, rfl, by decide, .inl rfl, HF4.out⟩)
  · rw [decide_eq_false h45] at HST
    go_enter Tryz.func63, Tryz.ntmps63
    go_wp2_with fail
    refine HB.out.mono ?_
    rintro e w1 ⟨rfl, rfl⟩
    go_wp2_with fail
    refine HST.out.mono ?_
    rintro e w1 ⟨rfl, rfl⟩
    go_wp2_with fail
    go_loopg [9] (rs.length) (fun gk a wr => ∃ i : Nat, a = .int .i64 (i : Int) ∧ rs.length ≤ i + gk ∧ f ≤ i ∧ i ≤ rs.length ∧ (f < i → rClass (peekOf rs (i - 1)) = 2) ∧ w = wr)
    case atStart => exact ⟨f, rfl, by omega, Nat.le_refl _, by omega, fun h => absurd h (Nat.lt_irrefl _), rfl⟩
    case round =>
     obtain ⟨i, rfl, hg, hfi, hi, hcl, rfl⟩ := hrel
     have HCL := Lib.hid hcl
     clear hcl
     by_cases hc : i < rs.length ∧ rClass (peekOf rs i) = 2
     · have hil := hc.1
       have c0 := HS.out.cell hil
       have HCC := Lib.hid (HC.out i w)
       have HK := Lib.hid hc.2
       have hi0 : ¬ ((i : Int) < 0) := by omega
       rw [hc.2] at HCC
       clear hc
       generalize hx : peekOf rs i = x at c0 HCC
       clear hx
       go_wp2_with fail
       refine HCC.out.mono ?_
       rintro e w2 ⟨rfl, rfl⟩
       go_wp2_with fail
       go_roundg (rs.length - (i + 1))
       case measure => omega
       case rel => exact ⟨i + 1, rfl, by omega, by omega, by omega, fun _ => HK.out, rfl⟩
     · by_cases hF : f = i
       · have hF2 : (i : Int) = (f : Int) := by omega
         by_cases hil : i < rs.length
         · have c0 := HS.out.cell hil
           have HCC := Lib.hid (HC.out i w)
           have hk : (rClass (peekOf rs i) == 2) = false := by simpa using fun e => hc ⟨hil, e⟩
           have hi0 : ¬ ((i : Int) < 0) := by omega
           clear hc
           generalize rClass (peekOf rs i) = k at *
           generalize peekOf rs i = x at c0 HCC
           go_wp2_with fail
           refine HCC.out.mono ?_
           rintro e w2 ⟨rfl, rfl⟩
           go_wp2_with fail
           go_ret2
           exact ⟨⟨#[]⟩, -1, rfl, by decide, .inl rfl, Fr.refl _ _⟩
         · clear hc
           go_wp2_with fail
           go_ret2
           exact ⟨⟨#[]⟩, -1, rfl, by decide, .inl rfl, Fr.refl _ _⟩
       · have hF2 : ¬ ((i : Int) = (f : Int)) := by omega
         have HPI := Lib.hid (show p < i ∧ i ≤ rs.length ∧ (2 ≤ i → EndP rs i) from ⟨by omega, hi, two_end (HCL.out (by omega))⟩)
         have hs := HSUB.out i (by omega) hi
         have hsz := HSZ.out i
         generalize strL (part rs f i) = s at *
         have HSI := Lib.hid hs
         have HSS := Lib.hid hsz
         have HD := Lib.hid (fun w1 => dparse_any s (by omega) w1)
         unfold ParsePost at HD
         clear hs hsz
         by_cases hil : i < rs.length
         · have c0 := HS.out.cell hil
           have HCC := Lib.hid (HC.out i w)
           have hk : (rClass (peekOf rs i) == 2) = false := by simpa using fun e => hc ⟨hil, e⟩
           have hi0 : ¬ ((i : Int) < 0) := by omega
           clear hc
           generalize rClass (peekOf rs i) = k at *
           generalize peekOf rs i = x at c0 HCC
           go_wp2_with fail
           refine HCC.out.mono ?_
           rintro e w2 ⟨rfl, rfl⟩
           go_wp2_with fail
           all_goals (
            refine (HSI.out _ _ (by omega) (by omega)).mono ?_
            rintro e w3 ⟨rfl, hf3⟩
            have HF3 := Lib.hid hf3
            clear hf3
            go_wp2_with fail
            refine (HD.out w3).mono ?_
            rintro e w4 ⟨x, rfl, hx, hf4⟩
            obtain ⟨A5, c5, rfl, _⟩ := hx.open_
            have HF4 := Lib.hid ((HF3.out.trans' hf4).alloc (.cells #[.bool (decide ((vParse s.data.toList).1 < 0)), .slice A5 (digs (vParse s.data.toList).1.natAbs).length c5] 189))
            clear hf4 hx
            generalize (vParse s.data.toList).2 = code at *
            generalize decide ((vParse s.data.toList).1 < 0) = bb at *
            generalize (digs (vParse s.data.toList).1.natAbs).length = n5 at *
            by_cases h0 : code = 0
            · go_wp2_with fail
              go_ret2
              exact ⟨s, _, rfl, HSS.out, .inr ⟨i, rfl, HPI.out⟩, HF4.out⟩
            · have h0' : (code != 0) = true := by simpa using h0
              go_wp2_with fail
              go_ret2
              exact ⟨⟨#[]⟩, -1, rfl, by decide, .inl rfl, HF4.out⟩)
         · clear hc
           go_wp2_with fail
           all_goals (
            refine (HSI.out _ _ (by omega) (by omega)).mono ?_
            rintro e w3 ⟨rfl, hf3⟩
            have HF3 := Lib.hid hf3
            clear hf3
            go_wp2_with fail
            refine (HD.out w3).mono ?_
            rintro e w4 ⟨x, rfl, hx, hf4⟩
            obtain ⟨A5, c5, rfl, _⟩ := hx.open_
            have HF4 := Lib.hid ((HF3.out.trans' hf4).alloc (.cells #[.bool (decide ((vParse s.data.toList).1 < 0)), .slice A5 (digs (vParse s.data.toList).1.natAbs).length c5] 189))
            clear hf4 hx
            generalize (vParse s.data.toList).2 = code at *
            generalize decide ((vParse s.data.toList).1 < 0) = bb at *
            generalize (digs (vParse s.data.toList).1.natAbs).length = n5 at *
            by_cases h0 : code = 0
            · go_wp2_with fail
              go_ret2
              exact ⟨s, _, rfl, HSS.out, .inr ⟨i, rfl, HPI.out⟩, HF4.out⟩
            · have h0' : (code != 0) = true := by simpa using h0
              go_wp2_with fail
              go_ret2
              exact ⟨⟨#[]⟩, -1, rfl, by decide, .inl rfl, HF4.out⟩)

end Go.Proofs.YtagchljgmjmlcaaGreatDoor
