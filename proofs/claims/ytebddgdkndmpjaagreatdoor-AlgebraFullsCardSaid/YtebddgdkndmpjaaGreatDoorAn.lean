/- A table with one more var, by BIND of a literal: walked. -/
import Derived.Test.YtebddgdkndmpjaaGreatDoorAl
import Derived.Test.YtebddgdkndmpjaaGreatDoorAh
import Derived.Test.YtebddgdkndmpjaaGreatDoorAi
import Derived.Deep.CutBlock
import Derived.Deep.RegionLawGrows
import Derived.Deep.Cut
import Derived.Deep.CutRange
import Derived.WalkKit
import Derived.WalkLawsBesides
import Derived.WalkSpells
import Derived.Deep.QuietTactic
import Derived.BigRegion
import Derived.BigQuiet
import Derived.Lib.Hide
import Derived.Outline
import Derived.Deep.AppendLies
import Derived.Deep.RegionLaw
import Derived.Deep.RegionWith
import Derived.Deep.RegionHeld3
import Derived.Deep.LoopGhost
import Derived.Deep.DeepFit
import Derived.Laws.ResultCell
import Derived.Laws.RangeAny
import Derived.Deep.MidRow
import Derived.StillTailTactics
import Derived.OpenShut
namespace Go.Proofs.YtebddgdkndmpjaaGreatDoor
set_option linter.unusedVariables false
open Go.RowKit Go

/-- What Extend by BIND of the k-th literal does. -/
def ExtPost (w : World) (vb b r B k : Nat) (sp : Option Addr) (vt : Value) (room : Int) (xs : List Int) (e : Ending) (w' : World) : Prop :=
  ∃ V vc vr vals vt', ∃ (n er : Int) (l : List Tm), e = .returned (.agg #[.slice V (k + 1) vc, vr]) ∧ w'.ownsRow w.heap.size 9 1 (.slice V (k + 1) vc) (k + 1) ((letters.take (k + 1)).map .string) ∧ RowsAt w' w.heap.size vr vals [xs ++ [n]] ∧
    EvBlk w' vb b sp er ∧ IsDict w' B b r vt' l room ∧ Fr (fun j => j = vb ∨ j = b ∨ j = r ∨ vt.ownBlock = some j) w w' ∧
    (((k : Int) < room ∧ n = k ∧ er = 0 ∧ l = smalls (k + 1)) ∨ (room ≤ (k : Int) ∧ n = -1 ∧ er = 6 ∧ l = smalls k))

theorem bind_row {w w' : World} {b r vb B : Nat} {sp : Option Addr} {e : Int} {vt : Value} {ts : List Tm} {room : Int} (hev : EvBlk w vb b sp e) (hd : IsDict w B b r vt ts room) (hf : Fr (fun j => j = vb ∨ j = b ∨ j = r ∨ vt.ownBlock = some j) w w') {B' t size n : Nat} {v : Value} {xs : List Value} (h : w.ownsRow B' t size v n xs) (h1 : t ≠ 163) (h2 : t ≠ 150) (h3 : t ≠ 35) : w'.ownsRow B' t size v n xs :=
  ownsRow_fr h hf fun j hj hS => by
    rcases hS with rfl | rfl | rfl | hS
    · exact own_blk_ne h hev h1 hj
    · exact own_blk_ne h hd.blk h2 hj
    · exact hd.map.ne_row h hj
    · exact row_row_ne h hd.row h3 hj hS
theorem bind_blk {w w' : World} {b r vb B : Nat} {sp : Option Addr} {e : Int} {vt : Value} {ts : List Tm} {room : Int} (hev : EvBlk w vb b sp e) (hd : IsDict w B b r vt ts room) (hf : Fr (fun j => j = vb ∨ j = b ∨ j = r ∨ vt.ownBlock = some j) w w') {g t : Nat} {cs : Array Value} (h : Blk w g t cs) (h1 : t ≠ 163) (h2 : t ≠ 150) (h3 : t ≠ 35) : Blk w' g t cs :=
  h.fr hf fun hS => by
    rcases hS with rfl | rfl | rfl | hS
    · exact Blk.ne_ h hev h1 rfl
    · exact Blk.ne_ h hd.blk h2 rfl
    · exact hd.map.ne_blk h rfl
    · exact own_blk_ne hd.row h (fun e => h3 e.symm) hS
theorem push_lt {xs : List Int} {n : Int} {k j : Nat} (hx : xs.length = k) (hj : j < k) : (xs ++ [n]).getD j 0 = xs.getD j 0 := by
  rw [List.getD_eq_getElem?_getD, List.getElem?_append_left (by omega), ← List.getD_eq_getElem?_getD]
theorem push_eq {xs : List Int} {n : Int} {k : Nat} (hx : xs.length = k) : (xs ++ [n]).getD k 0 = n := by
  rw [List.getD_eq_getElem?_getD, List.getElem?_append_right (by omega), hx]
  simp

/-- The state behind the one row. -/
def ExtMid (w wr : World) (ob vb b r B k : Nat) (sp : Option Addr) (vt : Value) (room : Int) (xs : List Int) : Prop :=
  ∃ V vc vr vals vt', ∃ (n er : Int) (l : List Tm), Blk wr ob 63 #[.slice V (k + 1) vc, vr] ∧ wr.ownsRow w.heap.size 9 1 (.slice V (k + 1) vc) (k + 1) ((letters.take (k + 1)).map .string) ∧ RowsAt wr w.heap.size vr vals [xs ++ [n]] ∧
    EvBlk wr vb b sp er ∧ IsDict wr B b r vt' l room ∧ Fr (fun j => j = vb ∨ j = b ∨ j = r ∨ vt.ownBlock = some j) w wr ∧ Blk wr (w.heap.size + 1 + 1) 63 #[.slice none 0 0, .slice none 0 0] ∧
    (((k : Int) < room ∧ n = k ∧ er = 0 ∧ l = smalls (k + 1)) ∨ (room ≤ (k : Int) ∧ n = -1 ∧ er = 6 ∧ l = smalls k))

theorem out_rel {w1 w7 : World} {ob n B : Nat} {V : Option Addr} {c : Nat} {xs : List Value} (hb : Blk w7 ob 63 #[.slice none 0 0, .slice none 0 0]) (hs : w7.ownsRow B 9 1 (.slice V n c) n xs) (hf : Fr (fun _ => False) w1 w7) (hob : w1.heap.size ≤ ob) :
    ∃ (ob' : Nat) (V' : Option Addr) (c' : Nat), Value.pointer (some ⟨ob, 0, none⟩) = .pointer (some ⟨ob', 0, none⟩) ∧ w1.heap.size ≤ ob' ∧ Blk ((w7.setCell ⟨ob, 0, none⟩ (.slice V n c)).setCell ⟨ob, 1, none⟩ (.slice none 0 0)) ob' 63 #[.slice V' n c', .slice none 0 0] ∧
      ((w7.setCell ⟨ob, 0, none⟩ (.slice V n c)).setCell ⟨ob, 1, none⟩ (.slice none 0 0)).ownsRow B 9 1 (.slice V' n c') n xs ∧ Fr (fun _ => False) w1 ((w7.setCell ⟨ob, 0, none⟩ (.slice V n c)).setCell ⟨ob, 1, none⟩ (.slice none 0 0)) := by
  have FS : Fr (fun j => j = ob) w7 ((w7.setCell ⟨ob, 0, none⟩ (.slice V n c)).setCell ⟨ob, 1, none⟩ (.slice none 0 0)) := ((Fr.refl (fun j => j = ob) w7).setCell ⟨ob, 0, none⟩ (fun _ => rfl) _).setCell ⟨ob, 1, none⟩ (fun _ => rfl) _
  refine ⟨ob, V, c, rfl, hob, (hb.set_ 0 (.slice V n c)).set_ 1 (.slice none 0 0), ownsRow_fr hs FS (fun j hj e => own_blk_ne hs hb (by decide) (by rw [hj, e])), (hf.setCell ⟨ob, 0, none⟩ (fun h => absurd h (by simp; omega)) _).setCell ⟨ob, 1, none⟩ (fun h => absurd h (by simp; omega)) _⟩
theorem out_new {w1 w7 : World} {n B : Nat} {V : Option Addr} {c : Nat} {xs : List Value} (hs : w7.ownsRow B 9 1 (.slice V n c) n xs) (hf : Fr (fun _ => False) w1 w7) :
    ∃ (ob' : Nat) (V' : Option Addr) (c' : Nat), Value.pointer (some ⟨w7.heap.size, 0, none⟩) = .pointer (some ⟨ob', 0, none⟩) ∧ w1.heap.size ≤ ob' ∧ Blk (w7.alloc (.cells #[.slice V n c, .slice none 0 0] 63)) ob' 63 #[.slice V' n c', .slice none 0 0] ∧
      (w7.alloc (.cells #[.slice V n c, .slice none 0 0] 63)).ownsRow B 9 1 (.slice V' n c') n xs ∧ Fr (fun _ => False) w1 (w7.alloc (.cells #[.slice V n c, .slice none 0 0] 63)) :=
  ⟨_, V, c, rfl, hf.size, Blk.new _ _ _, hs.alloc _, hf.alloc _⟩
theorem isVar_new (m : Nat) (hm : m < 9) : IsVar (letters.take m) (letters.getD m ByteArray.empty) m false := by
  have hl := let_len m (by omega)
  refine ⟨by omega, fun k hk => ?_, fun h => by omega, fun _ => rfl⟩
  rw [let_take m k (by omega) (by omega), let_up k (by omega) m (by omega)]

set_option maxRecDepth 100000 in
set_option maxHeartbeats 400000000 in
theorem ext_any (vx xb vb b r B B2 B3 k vc c : Nat) (sp V A : Option Addr) (vals : List Value) (xs : List Int) (vt : Value) (room : Int) (w : World) (hk : k < 9) (hb : EvBlk w vb b sp 0) (hd : IsDict w B b r vt (smalls k) room) (hB : B ≤ w.heap.size)
    (hvx : Blk w vx 161 #[.pointer (some ⟨vb, 0, none⟩)]) (hxb : Blk w xb 46 (litItem k)) (hV : k = 0 → V = none ∧ vc = 0) (hs : w.ownsRow B2 9 1 (.slice V k vc) k ((letters.take k).map .string)) (hr : RowsAt w B3 (.slice A 1 c) vals [xs]) (hx : xs.length = k) (hxm : ∀ j, j < k → -1 ≤ xs.getD j 0) :
    Calls Tryz.prog 190 #[.agg #[.slice V k vc, .slice A 1 c], .string (letters.getD k ByteArray.empty), .func (.func 191) #[] #[.pointer (some ⟨vx, 0, none⟩), .pointer (some ⟨xb, 0, none⟩)]] w (ExtPost w vb b r B k sp vt room xs) := by
  have HPL := Lib.hid (fun w hs => place_any k vc B2 k V (.slice A 1 c) (letters.take k) (letters.getD k ByteArray.empty) false w (by omega) (isVar_new k hk) hs)
  have HS := Lib.hid hs
  have HCL := Lib.hid (fun w hs => cloneN_any k vc B2 V (letters.take k) w (by omega) hV hs)
  have hlt1 := let_len (k + 1) (by omega)
  have HVA := Lib.hid (fun N cc wy hs => varsN_any (k + 1) cc w.heap.size N (letters.take (k + 1)) wy (by omega) (fun h => absurd h (by omega)) hs
    (fun j hj => by rw [let_take (k + 1) _ (by omega) (by omega), let_take (k + 1) _ (by omega) (by omega), let_up _ (by omega) _ (by omega)]; exact decide_eq_false (by omega))
    (fun j hj => by rw [let_take (k + 1) _ (by omega) (by omega), let_take (k + 1) _ (by omega) (by omega), let_eq _ (by omega) _ (by omega)]; exact decide_eq_false (by omega)))
  rw [show placeN k false = -1 from rfl] at HPL
  have HST := Lib.hid (let_step k hk)
  obtain ⟨i9, hi9, hz90, hz91, hz92⟩ := info_parts info9
  clear hs
  generalize hyk : letters.getD k ByteArray.empty = y at *
  have HYK := Lib.hid hyk
  clear hyk
  have hz1 : (w.alloc (.cells #[.slice V k vc, .slice A 1 c] 63)).heap.size = w.heap.size + 1 := by simp
  have hz2 : ((w.alloc (.cells #[.slice V k vc, .slice A 1 c] 63)).alloc (.cells #[.string y] 9)).heap.size = w.heap.size + 1 + 1 := by simp
  go_enter Tryz.func190, Tryz.ntmps190
  go_wp2_with fail
  refine (HPL.out _ (((HS.out.alloc _).alloc _).alloc _)).mono ?_
  rintro e w1 ⟨rfl, hf1⟩
  have hT1 := (((Blk.new w 63 #[.slice V k vc, .slice A 1 c]).alloc (.cells #[.string y] 9)).alloc (.cells #[.slice none 0 0, .slice none 0 0] 63)).fr hf1 (fun h => h)
  have hY1 := ((Blk.new (w.alloc (.cells #[.slice V k vc, .slice A 1 c] 63)) 9 #[.string y]).alloc (.cells #[.slice none 0 0, .slice none 0 0] 63)).fr hf1 (fun h => h)
  have hC1 := (Blk.new ((w.alloc (.cells #[.slice V k vc, .slice A 1 c] 63)).alloc (.cells #[.string y] 9)) 63 #[.slice none 0 0, .slice none 0 0]).fr hf1 (fun h => h)
  rw [hz1] at hY1
  rw [hz2] at hC1
  have t0 : w1.cell? ⟨w.heap.size, 0, none⟩ = some (.slice V k vc) := hT1.cell 0
  have t1 : w1.cell? ⟨w.heap.size, 1, none⟩ = some (.slice A 1 c) := hT1.cell 1
  have y0 : w1.cell? ⟨w.heap.size + 1, 0, none⟩ = some (.string y) := hY1.cell 0
  have hsz1 := hf1.size
  rw [show (((w.alloc (.cells #[.slice V k vc, .slice A 1 c] 63)).alloc (.cells #[.string y] 9)).alloc (.cells #[.slice none 0 0, .slice none 0 0] 63)).heap.size = w.heap.size + 3 by simp] at hsz1
  have HS1 := Lib.hid (ownsRow_fr (((HS.out.alloc (.cells #[.slice V k vc, .slice A 1 c] 63)).alloc (.cells #[.string y] 9)).alloc (.cells #[.slice none 0 0, .slice none 0 0] 63)) hf1 (fun _ _ h => h))
  have HK := Lib.hid (fun wy (hf : Fr (fun _ => False) w1 wy) => And.intro (cell_fr hf t0) (And.intro (cell_fr hf t1) (cell_fr hf y0)))
  go_wp2_with fail
  have hl6 : w.heap.size + 1 < w1.heap.size := by omega
  have hl7 : w.heap.size < w1.heap.size := by omega
  go_cut [7] from 17 (fun p wx => ∃ (ob : Nat) (V' : Option Addr) (c' : Nat), p = .pointer (some ⟨ob, 0, none⟩) ∧ w1.heap.size ≤ ob ∧ Blk wx ob 63 #[.slice V' (k + 1) c', .slice none 0 0] ∧ wx.ownsRow w.heap.size 9 1 (.slice V' (k + 1) c') (k + 1) ((letters.take (k + 1)).map .string) ∧ Fr (fun _ => False) w1 wx)
  case first =>
    go_region_law (first
      | (go_simp; go_at_call 123; refine (HCL.out _ (ownsRow_fr HS1.out (by repeat' (first | exact Fr.refl _ _ | refine Fr.alloc ?_ _ | refine Fr.drew ?_)) (fun _ _ h => h))).mono ?_; rintro e w2 ⟨V2, c2, rfl, hV2, hs2, hf2⟩; have F2 : Fr (fun _ => False) w1 w2 := Fr.trans' (by repeat' (first | exact Fr.refl _ _ | refine Fr.alloc ?_ _ | refine Fr.drew ?_)) hf2; have hk0 := (HK.out _ F2).1; have hk2 := (HK.out _ F2).2.2; have hz3 := F2.size; have HS2 := Lib.hid (ownsRow_base hs2 (show w.heap.size ≤ _ by simp; omega)); have HS2b := Lib.hid (ownsRow_base hs2 (show w1.heap.size ≤ _ by first | omega | (simp; done) | (simp; omega))); have hn2 : w1.heap.size ≤ w2.heap.size := F2.size; have hl8 : w.heap.size + 1 < w2.heap.size := (by omega); have hl9 : w.heap.size < w2.heap.size := (by omega);
          (try have hbs := ((Blk.new w1 9 #[.string y]).drew).fr hf2 (fun h => h)); (try have hbs := (((Blk.new w1 9 #[.string y]).alloc (.cells #[.slice none 0 0, .slice none 0 0] 63)).drew).fr hf2 (fun h => h)); (try have hbs := ((Blk.new (w1.alloc (.cells #[.slice none 0 0, .slice none 0 0] 63)) 9 #[.string y]).drew).fr hf2 (fun h => h));
          (try have hbo := ((Blk.new w1 63 #[.slice none 0 0, .slice none 0 0]).drew).fr hf2 (fun h => h)); (try have hbo := (((Blk.new w1 63 #[.slice none 0 0, .slice none 0 0]).alloc (.cells #[.string y] 9)).drew).fr hf2 (fun h => h)); (try have hbo := ((Blk.new (w1.alloc (.cells #[.string y] 9)) 63 #[.slice none 0 0, .slice none 0 0]).drew).fr hf2 (fun h => h)); (try simp at hbs); (try simp at hbo))
      | (refine step_append_lies _ (by rfl) _ _ 28 (by rfl) w.heap.size 9 i9 _ 1 16 Tryz.underlying28 hi9 hz90 hz91 hz92 rfl (by decide) (.slice V2 k c2) k ((letters.take k).map .string) (by rfl) (by first | exact HS2.out | exact HS2.out.alloc _ | exact (HS2.out.alloc _).alloc _) _ 1 1 [.string y] (by rfl) rfl (by first | exact World.news_of_block hbs | exact World.news_of_block (Blk.alloc hbs _) | exact World.news_of_block (heap_alloc_new _ _) | exact World.news_of_block (Blk.alloc (Blk.new _ _ _) _) | (have hq := Blk.new (w2.alloc (.cells #[.slice none 0 0, .slice none 0 0] 63)) 9 #[.string y]; rw [show (w2.alloc (.cells #[.slice none 0 0, .slice none 0 0] 63)).heap.size = w2.heap.size + 1 by simp] at hq; exact World.news_of_block hq)) (by intro u hu; rw [List.mem_singleton] at hu; rw [hu]; rfl) (by decide) (by unfold maxLen; omega) (by omega) (by first | omega | (simp; omega)) _ rfl ?_; intro g cap w6 hown6 hgr6 hor6 hlt6; have F6 := Fr.of_grown hgr6; have HO6 := Lib.hid (show w6.ownsRow w.heap.size 9 1 (.slice (some ⟨g, 0, none⟩) (k + 1) cap) (k + 1) ((letters.take (k + 1)).map .string) by rw [HST.out, List.map_append]; exact hown6); have hn6 := F6.size; have F16 : Fr (fun _ => False) w1 w6 := Fr.shut (n := w1.heap.size) (by refine Fr.trans ?_ F6 (fun j _ h => (HS2b.out.lt j h).1); repeat' (first | exact F2.mono (fun _ _ h => h.elim) | refine Fr.alloc ?_ _)) (Nat.le_refl _);
          (first
            | have hbo6 : Blk w6 _ 63 #[.slice none 0 0, .slice none 0 0] := Blk.fr hbo F6 (own_blk_ne (w := w2) HS2.out hbo (by decide))
            | have hbo6 : Blk w6 _ 63 #[.slice none 0 0, .slice none 0 0] := Blk.fr (Blk.alloc hbo (.cells #[.string y] 9)) F6 (own_blk_ne (HS2.out.alloc (.cells #[.string y] 9)) (Blk.alloc hbo (.cells #[.string y] 9)) (by decide))
            | have hbo6 : Blk w6 _ 63 #[.slice none 0 0, .slice none 0 0] := Blk.fr (Blk.new w2 63 #[.slice none 0 0, .slice none 0 0]) F6 (own_blk_ne (HS2.out.alloc (.cells #[.slice none 0 0, .slice none 0 0] 63)) (Blk.new w2 63 #[.slice none 0 0, .slice none 0 0]) (by decide))
            | have hbo6 : Blk w6 _ 63 #[.slice none 0 0, .slice none 0 0] := Blk.fr (Blk.new (w2.alloc (.cells #[.string y] 9)) 63 #[.slice none 0 0, .slice none 0 0]) F6 (own_blk_ne ((HS2.out.alloc (.cells #[.string y] 9)).alloc (.cells #[.slice none 0 0, .slice none 0 0] 63)) (Blk.new (w2.alloc (.cells #[.string y] 9)) 63 #[.slice none 0 0, .slice none 0 0]) (by decide))
            | have hbo6 : Blk w6 _ 63 #[.slice none 0 0, .slice none 0 0] := Blk.fr ((Blk.new w2 63 #[.slice none 0 0, .slice none 0 0]).alloc (.cells #[.string y] 9)) F6 (own_blk_ne ((HS2.out.alloc (.cells #[.slice none 0 0, .slice none 0 0] 63)).alloc (.cells #[.string y] 9)) ((Blk.new w2 63 #[.slice none 0 0, .slice none 0 0]).alloc (.cells #[.string y] 9)) (by decide))
            | have hno : True := trivial); (try simp at hbo6))
      | (go_simp; go_at_call 69; refine (HVA.out _ _ _ (by first | exact HO6.out | exact HO6.out.alloc _)).mono ?_; rintro e w7 ⟨V7, c7, rfl, hs7, hf7⟩; have F17 : Fr (fun _ => False) w1 w7 := Fr.trans' (by repeat' (first | exact F16 | refine Fr.alloc ?_ _)) hf7; have hn7 := F17.size; have hn16 := F16.size; have hs8 := ownsRow_base hs7 (show w.heap.size ≤ _ by first | omega | (simp; omega));
          (first
            | (have hbo7 := hbo6.fr hf7 (fun h => h); have o0 := hbo7.cell 0; have o1 := hbo7.cell 1; have o2 := hbo7.frozen 0; have o3 := hbo7.frozen 1; have o4 := hbo7.lt)
            | (have hbo7 := (Blk.new w6 63 #[.slice none 0 0, .slice none 0 0]).fr hf7 (fun h => h); have o0 := hbo7.cell 0; have o1 := hbo7.cell 1; have o2 := hbo7.frozen 0; have o3 := hbo7.frozen 1; have o4 := hbo7.lt)
            | have hno7 : True := trivial)))
    all_goals (go_wp2_with fail)
    all_goals go_meet
    all_goals
        first
          | exact out_rel hbo7 hs8 F17 (by first | omega | (simp; done) | (simp; omega))
          | exact out_new hs8 F17
  case rest =>
    obtain ⟨ob, V', c', rfl, hob, hbo, hro, hfo⟩ := hcut
    obtain ⟨wo, rfl⟩ : ∃ wo, wo = wc := ⟨wc, rfl⟩
    have F0 : Fr (fun _ => False) w wo := (((((Fr.refl (fun _ => False) w).alloc (.cells #[.slice V k vc, .slice A 1 c] 63)).alloc (.cells #[.string y] 9)).alloc (.cells #[.slice none 0 0, .slice none 0 0] 63)).trans' hf1).trans' hfo
    have HEV := Lib.hid (show EvBlk wo vb b sp 0 from Blk.fr hb F0 (fun h => h))
    have HD := Lib.hid (hd.frF F0)
    have HVX := Lib.hid (hvx.fr F0 (fun h => h))
    have HXB := Lib.hid (hxb.fr F0 (fun h => h))
    have hR := hr.frF F0
    have HSV := Lib.hid (ownsRow_fr HS1.out hfo (fun _ _ h => h))
    have HTT := Lib.hid (hT1.fr hfo (fun h => h))
    have HYY := Lib.hid (hY1.fr hfo (fun h => h))
    have HCC := Lib.hid (hC1.fr hfo (fun h => h))
    have hs0 := F0.size
    have hso := hfo.size
    have HBO := Lib.hid hbo
    have HRO := Lib.hid hro
    have HF0 := Lib.hid F0
    obtain ⟨ag, rfl, _, _, _⟩ := row_form (show w.ownsRow B3 48 1 (.slice A 1 c) 1 vals from hr.own) (by omega)
    have hck : wo.cell? ⟨ag, 0, none⟩ = some (vals.getD 0 undef) := by
      rw [World.ownsRow.cellAt hR.own 0 (by simp), List.getD_eq_getElem?_getD, List.getElem?_eq_getElem (by have := hr.len; simp at this; omega)]; rfl
    have hek : IntRow wo B3 (vals.getD 0 undef) xs := hR.each 0 (by simp)
    obtain ⟨R, rc, hv2⟩ := row_shape hek
    rw [hv2] at hck hek
    rw [hx] at hck hek
    have HEK := Lib.hid hek
    have HX := Lib.hid hx
    have HXM := Lib.hid hxm
    have k0 : wo.cell? ⟨w.heap.size, 0, none⟩ = some (.slice V k vc) := HTT.out.cell 0
    have k1 : wo.cell? ⟨w.heap.size, 1, none⟩ = some (.slice (some ⟨ag, 0, none⟩) 1 c) := HTT.out.cell 1
    have k2 := HTT.out.lt
    clear hbo hro hR hek hv2 hx hxm hr hvx hxb hb hd hT1 hY1 hC1 hfo hf1 F0 t0 t1 y0
    go_wp2_with fail
    go_loopw [28] (fun iv wr => (iv = .int .i64 0 ∧ wo = wr) ∨ (iv = .int .i64 1 ∧ ExtMid w wr ob vb b r B k sp vt room xs)) (fun iv _ => 1 - (intOf iv).toNat)
    case atStart => exact .inl ⟨rfl, rfl⟩
    case round =>
      rcases hrel with ⟨rfl, rfl⟩ | ⟨rfl, hmid⟩
      · have F1 : Fr (fun _ => False) wo (wo.alloc (.cells #[.slice R k rc] 48)) := (Fr.refl _ _).alloc _
        have HI := Lib.hid (item1_any vx xb vb b r B k k vc 1 c k rc sp V (some ⟨ag, 0, none⟩) R vt room (wo.alloc (.cells #[.slice R k rc] 48)) (by omega) (Blk.fr HEV.out F1 (fun h => h)) (HD.out.frF F1) (by simp; omega) (HVX.out.fr F1 (fun h => h)) (HXB.out.fr F1 (fun h => h)))
        go_wp2_with fail
        refine HI.out.mono ?_
        rintro e w2 ⟨vt', n, er, l, rfl, hev2, hd2, hf2, hcase⟩
        have hev1 : EvBlk (wo.alloc (.cells #[.slice R k rc] 48)) vb b sp 0 := Blk.fr HEV.out F1 (fun h => h)
        have hd1 := HD.out.frF F1
        have HT2 := Lib.hid (bind_blk hev1 hd1 hf2 (HTT.out.alloc (.cells #[.slice R k rc] 48)) (by decide) (by decide) (by decide))
        have HY2 := Lib.hid (bind_blk hev1 hd1 hf2 (HYY.out.alloc (.cells #[.slice R k rc] 48)) (by decide) (by decide) (by decide))
        have HC2 := Lib.hid (bind_blk hev1 hd1 hf2 (HCC.out.alloc (.cells #[.slice R k rc] 48)) (by decide) (by decide) (by decide))
        have HO2 := Lib.hid (bind_blk hev1 hd1 hf2 (HBO.out.alloc (.cells #[.slice R k rc] 48)) (by decide) (by decide) (by decide))
        have HX2 := Lib.hid (bind_blk hev1 hd1 hf2 (Blk.new wo 48 #[.slice R k rc]) (by decide) (by decide) (by decide))
        have HSV2 := Lib.hid (bind_row hev1 hd1 hf2 (HSV.out.alloc (.cells #[.slice R k rc] 48)) (by decide) (by decide) (by decide))
        have HRO2 := Lib.hid (bind_row hev1 hd1 hf2 (HRO.out.alloc (.cells #[.slice R k rc] 48)) (by decide) (by decide) (by decide))
        have HEK2 := Lib.hid (bind_row hev1 hd1 hf2 (ownsRow_fr HEK.out F1 (fun _ _ h => h)) (by decide) (by decide) (by decide))
        have HEV2 := Lib.hid hev2
        have HD2 := Lib.hid hd2
        have HCASE := Lib.hid hcase
        have HF2 := Lib.hid (((HF0.out.trans' F1).mono (T := fun j => j = vb ∨ j = b ∨ j = r ∨ vt.ownBlock = some j) (fun _ _ h => h.elim)).trans hf2 (fun _ _ h => h))
        have hsz2 := hf2.size
        rw [show (wo.alloc (.cells #[.slice R k rc] 48)).heap.size = wo.heap.size + 1 by simp] at hsz2
        have hn1 : -1 ≤ n := by rcases hcase with ⟨_, h, _⟩ | ⟨_, h, _⟩ <;> omega
        have HN1 := Lib.hid hn1
        have HG := Lib.hid (row_gen 237 #[.pointer (some ⟨w.heap.size + 1, 0, none⟩), .pointer (some ⟨w2.heap.size, 0, none⟩), .pointer (some ⟨w.heap.size, 0, none⟩), .pointer (some ⟨wo.heap.size, 0, none⟩)] ob (k + 1) c' w.heap.size V' (.slice none 0 0) [] [] (letters.take (k + 1)) (xs ++ [n]) (w2.alloc (.cells #[.int .i64 n] 3)) hlt1 (by rw [List.length_append, HX.out]; rfl)
          (fun j hj => by
            by_cases hjk : j < k
            · rw [push_lt HX.out hjk]; exact HXM.out j hjk
            · have : j = k := by omega
              subst this
              rw [push_eq HX.out]; exact hn1) (by omega) (by simp; omega) (by decide) (fun _ _ => rfl) (fun w1' j hj hfj => by
            have hbl : ∀ {g t : Nat} {cs : Array Value}, Blk w2 g t cs → Blk w1' g t cs := fun h => (h.alloc _).fr hfj (fun h2 => absurd (h.alloc (.cells #[.int .i64 n] 3)).lt (by omega))
            have hrw : ∀ {B' t size n' : Nat} {v : Value} {us : List Value}, w2.ownsRow B' t size v n' us → w1'.ownsRow B' t size v n' us := fun h => ownsRow_fr (h.alloc (.cells #[.int .i64 n] 3)) hfj (fun j' hj' h2 => absurd ((h.alloc (.cells #[.int .i64 n] 3)).lt j' hj').2 (by omega))
            have hnb : Blk w1' w2.heap.size 3 #[.int .i64 n] := (Blk.new w2 3 #[.int .i64 n]).fr hfj (fun h2 => absurd (Blk.new w2 3 #[.int .i64 n]).lt (by omega))
            have hir : IntRow w1' B3 (.slice R k rc) xs := hrw HEK2.out
            rw [let_take (k + 1) j (by omega) (by omega)]
            by_cases hjk : j < k
            · have h := ext1_any (w.heap.size + 1) w2.heap.size w.heap.size wo.heap.size k k vc 1 c rc B2 B3 j V (some ⟨ag, 0, none⟩) R (letters.take k) (letters.getD j ByteArray.empty) y n true xs w1' (by omega) (isVar_let k j hjk (by omega)) HX.out (hrw HSV2.out) hir (hbl HY2.out) hnb (hbl HT2.out) (hbl HX2.out)
              rw [← HYK.out, let_eq j (by omega) k (by omega), if_neg (by simp; omega)] at h
              rw [push_lt HX.out hjk]
              exact h
            · have hjk' : j = k := by omega
              subst hjk'
              have h := ext1_any (w.heap.size + 1) w2.heap.size w.heap.size wo.heap.size j j vc 1 c rc B2 B3 j V (some ⟨ag, 0, none⟩) R (letters.take j) (letters.getD j ByteArray.empty) y n false xs w1' (by omega) (isVar_new j hk) HX.out (hrw HSV2.out) hir (hbl HY2.out) hnb (hbl HT2.out) (hbl HX2.out)
              rw [← HYK.out, let_eq j (by omega) j (by omega), if_pos (by simp)] at h
              rw [push_eq HX.out]
              exact h) (HO2.out.alloc _) (HRO2.out.alloc _) ⟨World.ownsRow_nil _ _ _ _, fun i hi => absurd hi (by simp)⟩)
        clear hev2 hd2 hcase hf2 hev1 hd1 hn1
        go_wp2_with fail
        refine HG.out.mono ?_
        rintro e w4 ⟨rfl, vr4, vals4, hb4, hr4, hf4, _⟩
        have hf4' : Fr (fun j => j = ob) (w2.alloc (.cells #[.int .i64 n] 3)) w4 := hf4.mono (fun j _ h => h.elim id (fun h => by cases h))
        have HO := HO2.out.alloc (.cells #[.int .i64 n] 3)
        have HMID := Lib.hid (show ExtMid w w4 ob vb b r B k sp vt room xs from ⟨V', c', vr4, vals4, vt', n, er, l, hb4, ownsRow_fr (HRO2.out.alloc _) hf4' (fun j hj e => own_blk_ne (HRO2.out.alloc (.cells #[.int .i64 n] 3)) HO (by decide) (by rw [hj, e])), hr4,
          (Blk.alloc HEV2.out _).fr hf4' (fun e => Blk.ne_ (Blk.alloc HEV2.out (.cells #[.int .i64 n] 3)) HO (by decide) e),
          (HD2.out.frF ((Fr.refl _ _).alloc _)).fr hf4' (fun e => Blk.ne_ (HD2.out.blk.alloc (.cells #[.int .i64 n] 3)) HO (by decide) e) (fun e => (HD2.out.frF ((Fr.refl _ _).alloc (.cells #[.int .i64 n] 3))).map.ne_blk HO e.symm) (fun j hj e => own_blk_ne (HD2.out.frF ((Fr.refl _ _).alloc (.cells #[.int .i64 n] 3))).row HO (by decide) (by rw [hj, e])),
          (HF2.out.alloc _).trans hf4' (fun j hj e => absurd hj (by omega)), (HC2.out.alloc _).fr hf4' (fun e => absurd e (by omega)), HCASE.out⟩)
        clear hb4 hr4 hf4 hf4' HO
        go_wp2_with fail
        go_roundw
        case rel => exact .inr ⟨rfl, HMID.out⟩
        case measure => simp only [intOf]; omega
      · obtain ⟨V4, c4, vr4, vals4, vt4, n, er, l, hb4, ho4, hr4, hev4, hd4, hf4, hc4, hcase⟩ := hmid
        obtain ⟨A4, d4, hv4⟩ := row_shape hr4.own
        subst hv4
        rw [show ([xs ++ [n]] : List (List Int)).length = 1 from rfl] at *
        have m0 : wr.cell? ⟨ob, 0, none⟩ = some (.slice V4 (k + 1) c4) := hb4.cell 0
        have m1 : wr.cell? ⟨ob, 1, none⟩ = some (.slice A4 1 d4) := hb4.cell 1
        have hlo := hb4.lt
        have hlc := hc4.lt
        have g0 := hc4.frozen 0
        have g1 := hc4.frozen 1
        have gc0 : wr.cell? ⟨w.heap.size + 1 + 1, 0, none⟩ = some (.slice none 0 0) := hc4.cell 0
        have gc1 : wr.cell? ⟨w.heap.size + 1 + 1, 1, none⟩ = some (.slice none 0 0) := hc4.cell 1
        have hs5 := hc4.set_ 0 (.slice V4 (k + 1) c4)
        have gc12 : (wr.setCell ⟨w.heap.size + 1 + 1, 0, none⟩ (.slice V4 (k + 1) c4)).cell? ⟨w.heap.size + 1 + 1, 1, none⟩ = some (.slice none 0 0) := hs5.cell 1
        have g12 : (wr.setCell ⟨w.heap.size + 1 + 1, 0, none⟩ (.slice V4 (k + 1) c4)).frozen? ⟨w.heap.size + 1 + 1, 1, none⟩ = false := hs5.frozen 1
        have hl5 := hs5.lt
        have HS6 := Lib.hid (show Blk ((wr.setCell ⟨w.heap.size + 1 + 1, 0, none⟩ (.slice V4 (k + 1) c4)).setCell ⟨w.heap.size + 1 + 1, 1, none⟩ (.slice A4 1 d4)) (w.heap.size + 1 + 1) 63 #[.slice V4 (k + 1) c4, .slice A4 1 d4] from hs5.set_ 1 (.slice A4 1 d4))
        have FS : Fr (fun j => j = w.heap.size + 1 + 1) wr ((wr.setCell ⟨w.heap.size + 1 + 1, 0, none⟩ (.slice V4 (k + 1) c4)).setCell ⟨w.heap.size + 1 + 1, 1, none⟩ (.slice A4 1 d4)) := ((Fr.refl (fun j => j = w.heap.size + 1 + 1) wr).setCell ⟨w.heap.size + 1 + 1, 0, none⟩ (fun _ => rfl) _).setCell ⟨w.heap.size + 1 + 1, 1, none⟩ (fun _ => rfl) _
        have HPOST := Lib.hid (show ExtPost w vb b r B k sp vt room xs (.returned (.agg #[.slice V4 (k + 1) c4, .slice A4 1 d4])) ((wr.setCell ⟨w.heap.size + 1 + 1, 0, none⟩ (.slice V4 (k + 1) c4)).setCell ⟨w.heap.size + 1 + 1, 1, none⟩ (.slice A4 1 d4)) from
          ⟨V4, c4, _, vals4, vt4, n, er, l, rfl, ownsRow_fr ho4 FS (fun j hj e => own_blk_ne ho4 hc4 (by decide) (by rw [hj, e])), hr4.frB hc4 (by decide) (by decide) FS, Blk.fr hev4 FS (fun e => Blk.ne_ hev4 hc4 (by decide) e),
            hd4.fr FS (fun e => Blk.ne_ hd4.blk hc4 (by decide) e) (fun e => hd4.map.ne_blk hc4 e.symm) (fun j hj e => own_blk_ne hd4.row hc4 (by decide) (by rw [hj, e])), hf4.trans FS (fun j hj e => absurd hj (by omega)), hcase⟩)
        clear hb4 ho4 hr4 hev4 hd4 hf4 hc4 hcase hs5 FS
        go_wp2_with fail
        exact bodyPost_ret (v := .agg #[.slice V4 (k + 1) c4, .slice A4 1 d4]) (results_cell_row rfl _ _ (w.heap.size + 1 + 1) 63 _ (0, 0) _ rfl HS6.out Tryz.underlying63 rfl (by kernel_rfl)) rfl HPOST.out

end Go.Proofs.YtebddgdkndmpjaaGreatDoor
