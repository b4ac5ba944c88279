/- Texts of the proof, one behind the other: Qo, Qp, Qq, Qr, Qs, Ed, Qt, Qu, Qv, Qw, Qx, Qy, Qz, Ta, Tb. -/
import Derived.Test.YtagchljgmjmlcaaGreatDoorXu
import Derived.Test.YtagchljgmjmlcaaGreatDoorXd
import Derived.Deep.CutBlock
import Derived.Deep.RegionLawGrows
import Derived.Deep.Cut
import Derived.Deep.CutRange
import Derived.WalkKit
import Derived.WalkLawsBesides
import Derived.WalkSpells
import Derived.Deep.QuietTactic
import Derived.BigRegion
import Derived.BigQuiet
import Derived.Lib.Hide
import Derived.Outline
import Derived.Deep.AppendLies
import Derived.Deep.RegionLaw
import Derived.Deep.RegionWith
import Derived.Deep.RegionHeld3
import Derived.Deep.LoopGhost
import Derived.Deep.DeepFit
import Derived.Laws.ResultCell
import Derived.Laws.RangeAny
import Derived.Deep.MidRow
import Derived.StillTailTactics
import Derived.OpenShut
namespace Go.Proofs.YtagchljgmjmlcaaGreatDoor
set_option linter.unusedVariables false
open Go.RowKit Go

/-- A tree of paths, in memory: what a leaf has, what else there is. -/
inductive TBt (f : ByteArray → Value) (z : Value) (ty : TypeId) (w : World) (S : Nat → Prop) : PT → List Value → Prop
 | leaf (k : Int) (i : ByteArray) : TBt f z ty w S (.leaf k i) [.int .i64 k, f i, .slice none 0 0]
 | node (k : Int) (ts : List PT) (A : Option Addr) (c : Nat) (L : List (List Value)) (hL : L.length = ts.length) (hp : ∀ (i : Nat) t l, ts[i]? = some t → L[i]? = some l → TBt f z ty w S t l) (hr : w.ownsRow 0 ty 3 (.slice A ts.length c) ts.length L.flatten) (hS : ∀ g, (Value.slice A ts.length c).ownBlock = some g → S g) :
  TBt f z ty w S (.node k ts) [.int .i64 k, z, .slice A ts.length c]
theorem TBt.fr {f : ByteArray → Value} {z : Value} {ty : TypeId} {w w' : World} {S T : Nat → Prop} (hf : Fr T w w') (hS : ∀ j, S j → ¬ T j) {t : PT} {l : List Value} (h : TBt f z ty w S t l) : TBt f z ty w' S t l := by
 induction h with
 | leaf k i => exact .leaf k i
 | node k ts A c L hL hp hr hs ih => exact .node k ts A c L hL ih (ownsRow_fr hr hf fun j hj => hS j (hs j hj)) hs
theorem TBt.imp {f : ByteArray → Value} {z : Value} {ty : TypeId} {w : World} {S S' : Nat → Prop} (hS : ∀ j, j < w.heap.size → S j → S' j) {t : PT} {l : List Value} (h : TBt f z ty w S t l) : TBt f z ty w S' t l := by
 induction h with
 | leaf k i => exact .leaf k i
 | node k ts A c L hL hp hr hs ih => exact .node k ts A c L hL ih hr fun j hj => hS j (World.ownsRow.lt hr _ hj).2 (hs j hj)
/-- TParts, one behind the other. -/
structure TParts (f : ByteArray → Value) (z : Value) (ty : TypeId) (w : World) (B : Nat) (v : Value) (ts : List PT) (L : List (List Value)) : Prop where
 len : L.length = ts.length
 each : ∀ (i : Nat) t l, ts[i]? = some t → L[i]? = some l → TBt f z ty w (fun j => B ≤ j ∧ v.ownBlock ≠ some j) t l
 row : w.ownsRow B ty 3 v ts.length L.flatten
theorem TParts.frF {f : ByteArray → Value} {z : Value} {ty : TypeId} {w w' : World} {B : Nat} {v : Value} {ts : List PT} {L : List (List Value)} (h : TParts f z ty w B v ts L) (hf : Fr (fun _ => False) w w') : TParts f z ty w' B v ts L :=
 ⟨h.len, fun i t l h1 h2 => (h.each i t l h1 h2).fr hf (fun _ _ h => h), ownsRow_fr h.row hf (fun _ _ h => h)⟩
theorem TParts.push {f : ByteArray → Value} {z : Value} {ty : TypeId} {w w' : World} {B g c : Nat} {v : Value} {ts : List PT} {L : List (List Value)} {t : PT} {l : List Value} (h : TParts f z ty w B v ts L) (ht : TBt f z ty w (fun j => B ≤ j ∧ v.ownBlock ≠ some j) t l)
    (hr : w'.ownsRow B ty 3 (.slice (some ⟨g, 0, none⟩) (ts.length + 1) c) (ts.length + 1) (L.flatten ++ l)) (hg : w.grownBy w' v.ownBlock) (hor : v.ownBlock = some g ∨ g = w.heap.size) : TParts f z ty w' B (.slice (some ⟨g, 0, none⟩) (ts.length + 1) c) (ts ++ [t]) (L ++ [l]) := by
 have hK : ∀ t l, TBt f z ty w (fun j => B ≤ j ∧ v.ownBlock ≠ some j) t l → TBt f z ty w' (fun j => B ≤ j ∧ (Value.slice (some ⟨g, 0, none⟩) (ts.length + 1) c).ownBlock ≠ some j) t l := fun t l h => by
  have h1 := h.imp (S' := fun j => B ≤ j ∧ (Value.slice (some ⟨g, 0, none⟩) (ts.length + 1) c).ownBlock ≠ some j ∧ v.ownBlock ≠ some j) (fun j hj hb => ⟨hb.1, fun e => by
   injection e with e
   have e : g = j := e
   rcases hor with h2 | h2
   · exact hb.2 (by rw [h2, e])
   · omega, hb.2⟩)
  refine TBt.imp (S := fun j => B ≤ j ∧ (Value.slice (some ⟨g, 0, none⟩) (ts.length + 1) c).ownBlock ≠ some j ∧ v.ownBlock ≠ some j) (fun j _ hb => ⟨hb.1, hb.2.1⟩) (h1.fr (Fr.of_grown hg) fun j hb => hb.2.2)
 refine ⟨by simp [h.len], fun i t' l' h1 h2 => ?_, by simpa using hr⟩
 by_cases hi : i < ts.length
 · rw [List.getElem?_append_left hi] at h1
   rw [List.getElem?_append_left (by rw [h.len]; exact hi)] at h2
   exact hK _ _ (h.each i t' l' h1 h2)
 · rw [List.getElem?_append_right (by omega)] at h1
   rw [List.getElem?_append_right (by rw [h.len]; omega), h.len] at h2
   generalize i - ts.length = m at h1 h2
   cases m with
   | zero =>
    injection h1 with h1
    injection h2 with h2
    rw [← h1, ← h2]
    exact hK _ _ ht
   | succ m => cases h1
theorem TParts.frX {f : ByteArray → Value} {z : Value} {ty : TypeId} {w w' : World} {B x : Nat} {v : Value} {ts : List PT} {L : List (List Value)} (h : TParts f z ty w B v ts L) (hxB : x < B) (hf : Fr (fun j => j = x) w w') : TParts f z ty w' B v ts L :=
 ⟨h.len, fun i t l h1 h2 => (h.each i t l h1 h2).fr hf (fun j hj e => by have := hj.1; omega), ownsRow_fr h.row hf (fun k hk e => by have := own_ge h.row hk; omega)⟩
theorem TParts.nil {f : ByteArray → Value} {z : Value} {ty : TypeId} (w : World) (B : Nat) : TParts f z ty w B (.slice none 0 0) [] [] :=
 ⟨rfl, fun i t l h _ => by simp at h, World.ownsRow_nil _ _ _ _⟩
theorem TBt.cells {f : ByteArray → Value} {z : Value} {ty : TypeId} {w : World} {S : Nat → Prop} {t : PT} {l : List Value} (h : TBt f z ty w S t l) : ∃ (k : Int) (v : Value) (A : Option Addr) (n c : Nat), l = [.int .i64 k, v, .slice A n c] ∧ (v = z ∨ ∃ i, v = f i) := by
 cases h with
 | leaf k i => exact ⟨_, _, _, _, _, rfl, .inr ⟨i, rfl⟩⟩
 | node k ts A c L hL hp hr hs => exact ⟨_, _, _, _, _, rfl, .inl rfl⟩
theorem TParts.node {f : ByteArray → Value} {z : Value} {ty : TypeId} {w : World} {B : Nat} {A : Option Addr} {c : Nat} {ts : List PT} {L : List (List Value)} (k : Int) (h : TParts f z ty w B (.slice A ts.length c) ts L) : TBt f z ty w (fun j => B ≤ j) (.node k ts) [.int .i64 k, z, .slice A ts.length c] :=
 .node k ts A c L h.len (fun i t l h1 h2 => (h.each i t l h1 h2).imp (fun _ _ hb => hb.1)) (ownsRow_base h.row (Nat.zero_le _)) (fun g hg => own_ge h.row hg)

abbrev nF (φ : ByteArray → Int) (i : ByteArray) : Value := .int .i64 (φ i)
abbrev nZ : Value := .int .i64 0
/-- A path by numbers, in memory. -/
def NAt (φ : ByteArray → Int) (w : World) (B : Nat) (t : PT) (l : List Value) : Prop := TBt (nF φ) nZ 76 w (fun j => B ≤ j) t l
/-- A path's kinds are as they are. -/
inductive Kinds : PT → Prop
 | leaf (k : Int) (i : ByteArray) (h : k = 0 ∨ k = 1) : Kinds (.leaf k i)
 | node (k : Int) (ts : List PT) (h : 2 ≤ k) (h2 : k ≤ 6) (hp : ∀ t, t ∈ ts → Kinds t) : Kinds (.node k ts)
theorem inf76 : (Tryz.prog.info? 76).map (·.size) = some 3 := by kernel_rfl
theorem infZ76 : (Tryz.prog.info? 76).map (fun i => (i.zero, i.size, i.bytes)) = some (some (.agg #[.int .i64 0, .int .i64 0, .slice none 0 0]), 3, 40) := by kernel_rfl
theorem cells76 (k n : Int) (A : Option Addr) (m c : Nat) : CellsN 3 #[.int .i64 k, .int .i64 n, .slice A m c] := ⟨rfl, all_oneCell_toArray (cs := [.int .i64 k, .int .i64 n, .slice A m c]) (by
 intro v hv
 simp only [List.mem_cons, List.not_mem_nil, or_false] at hv
 rcases hv with rfl | rfl | rfl <;> rfl)⟩
def NPost (φ : ByteArray → Int) (t : PT) (w : World) (e : Ending) (w' : World) : Prop :=
 ∃ (k N : Int) (A : Option Addr) (n c : Nat), e = .returned (.agg #[.int .i64 k, .int .i64 N, .slice A n c]) ∧ NAt φ w' w.heap.size t [.int .i64 k, .int .i64 N, .slice A n c] ∧ Fr (fun _ => False) w w'
set_option maxRecDepth 100000 in
set_option maxHeartbeats 8000000 in
theorem number_leaf (φ : ByteArray → Int) (F : Nat) (hen : ∀ args w, (callFunc F args).run Tryz.prog w = .ok (.enter F args) w) (HF : ∀ i w, Calls Tryz.prog F #[.string i] w fun e w' => e = .returned (.int .i64 (φ i)) ∧ w = w') (k : Int) (hk : k = 0 ∨ k = 1) (i : ByteArray) (w : World) :
    Calls Tryz.prog 13 #[.agg #[.int .i64 k, .string i, .slice none 0 0], .func (.func F) #[] #[]] w (NPost φ (.leaf k i) w) := by
 have hf0 : Fr (fun _ => False) w ((w.alloc (.cells #[.int .i64 k, .string i, .slice none 0 0] 62)).alloc (.cells #[.int .i64 0, .int .i64 0, .slice none 0 0] 76)) := ((Fr.refl _ _).alloc _).alloc _
 have hz : (w.alloc (.cells #[.int .i64 k, .string i, .slice none 0 0] 62)).heap.size = w.heap.size + 1 := by simp
 have hy := Blk.new (w.alloc (.cells #[.int .i64 k, .string i, .slice none 0 0] 62)) 76 #[.int .i64 0, .int .i64 0, .slice none 0 0]
 rw [hz] at hy
 have hx := (Blk.new w 62 #[.int .i64 k, .string i, .slice none 0 0]).alloc (.cells #[.int .i64 0, .int .i64 0, .slice none 0 0] 76)
 have HX := Lib.hid hx
 have HY := Lib.hid hy
 have HFr := Lib.hid hf0.up
 have c0 : ((w.alloc (.cells #[.int .i64 k, .string i, .slice none 0 0] 62)).alloc (.cells #[.int .i64 0, .int .i64 0, .slice none 0 0] 76)).cell? ⟨w.heap.size, 0, none⟩ = some (.int .i64 k) := hx.cell 0
 have hz2 : ((w.alloc (.cells #[.int .i64 k, .string i, .slice none 0 0] 62)).alloc (.cells #[.int .i64 0, .int .i64 0, .slice none 0 0] 76)).heap.size = w.heap.size + 2 := by simp
 have HFF := Lib.hid HF
 have HK := Lib.hid hk
 clear hf0 hx hy HF hk
 have c1 : ((w.alloc (.cells #[.int .i64 k, .string i, .slice none 0 0] 62)).alloc (.cells #[.int .i64 0, .int .i64 0, .slice none 0 0] 76)).cell? ⟨w.heap.size, 1, none⟩ = some (.string i) := HX.out.cell 1
 have HO := Lib.hid (show Blk (((w.alloc (.cells #[.int .i64 k, .string i, .slice none 0 0] 62)).alloc (.cells #[.int .i64 0, .int .i64 0, .slice none 0 0] 76)).alloc (.cells #[.int .i64 k, .int .i64 0, .slice none 0 0] 76)) (w.heap.size + 2) 76 #[.int .i64 k, .int .i64 0, .slice none 0 0] by have h := Blk.new ((w.alloc (.cells #[.int .i64 k, .string i, .slice none 0 0] 62)).alloc (.cells #[.int .i64 0, .int .i64 0, .slice none 0 0] 76)) 76 #[.int .i64 k, .int .i64 0, .slice none 0 0]; rw [hz2] at h; exact h)
 have hfa : Fr (fun _ => False) ((w.alloc (.cells #[.int .i64 k, .string i, .slice none 0 0] 62)).alloc (.cells #[.int .i64 0, .int .i64 0, .slice none 0 0] 76)) (((w.alloc (.cells #[.int .i64 k, .string i, .slice none 0 0] 62)).alloc (.cells #[.int .i64 0, .int .i64 0, .slice none 0 0] 76)).alloc (.cells #[.int .i64 k, .int .i64 0, .slice none 0 0] 76)) := (Fr.refl _ _).alloc _
 have HX3 := Lib.hid (HX.out.fr hfa (fun h => h))
 have HY3 := Lib.hid (HY.out.fr hfa (fun h => h))
 have HF3 := Lib.hid (HFr.out.andF hfa)
 have c3 : (((w.alloc (.cells #[.int .i64 k, .string i, .slice none 0 0] 62)).alloc (.cells #[.int .i64 0, .int .i64 0, .slice none 0 0] 76)).alloc (.cells #[.int .i64 k, .int .i64 0, .slice none 0 0] 76)).cell? ⟨w.heap.size, 1, none⟩ = some (.string i) := HX3.out.cell 1
 clear hfa HX HY HFr
 rcases HK.out with rfl | rfl
 · go_enter Tryz.func13, Tryz.ntmps13
   go_wp2_with fail
   refine (HFF.out _ _).mono ?_
   rintro e w1 ⟨rfl, rfl⟩
   generalize (((w.alloc (.cells #[.int .i64 0, .string i, .slice none 0 0] 62)).alloc (.cells #[.int .i64 0, .int .i64 0, .slice none 0 0] 76)).alloc (.cells #[.int .i64 0, .int .i64 0, .slice none 0 0] 76)) = w3 at *
   go_wp2_with ((with_reducible change wpList _ _ _ (Oper.mk _ (.store 3 _ _) _ _ _ _ :: _) _ _); refine wpList_store_cell rfl 3 _ _ rfl (w.heap.size + 2) 1 (.int .i64 (φ i)) rfl rfl rfl 76 _ HO.out (by exact Nat.le_of_ble_eq_true rfl) (by kernel_rfl) rfl ?_)
   refine Lib.hid ?_
   rintro w4 ho4 hf4
   have HO4 := Lib.hid (show Blk w4 (w.heap.size + 2) 76 #[.int .i64 0, .int .i64 (φ i), .slice none 0 0] from ho4)
   have hx4 := HX3.out.oth hf4 (by omega)
   have c4 : w4.cell? ⟨w.heap.size, 2, none⟩ = some (.slice none 0 0) := hx4.cell 2
   have HY4 := Lib.hid (HY3.out.oth hf4 (by omega))
   have HF4 := Lib.hid (HF3.out.andX hf4 (by omega))
   clear ho4 hf4 hx4 c3
   go_wp2_with fail
   go_loopg [27] (0) (fun gk a wr => a = .int .i64 0 ∧ w4 = wr)
   case atStart => exact ⟨rfl, rfl⟩
   case round =>
    obtain ⟨rfl, rfl⟩ := hrel
    go_wp2_with (first | ((with_reducible change wpList _ _ _ (Oper.mk _ (.load 76 _) _ _ _ _ :: _) _ _); refine wpList_load_blk rfl 76 _ rfl _ rfl 76 #[.int .i64 0, .int .i64 (φ i), .slice none 0 0] HO4.out _ Tryz.underlying76 rfl inf76 ?_) | ((with_reducible change wpList _ _ _ (Oper.mk _ (.store 76 _ _) _ _ _ _ :: _) _ _); refine wpList_store_blkH rfl 76 _ _ rfl _ #[.int .i64 0, .int .i64 (φ i), .slice none 0 0] rfl rfl 76 _ HY4.out (by rfl) (by exact inf76) (cells76 _ _ _ _ _).one ?_))
    refine Lib.hid ?_
    rintro wz hbz hfz
    have HFZ := Lib.hid ((HF4.out.andX hfz (by omega)).shut (Nat.le_refl _))
    go_wp2_with fail
    exact bodyPost_ret (v := .agg #[.int .i64 0, .int .i64 (φ i), .slice none 0 0]) (results_cell_row rfl _ _ (w.heap.size + 1) 76 _ (0, 0) _ rfl hbz Tryz.underlying76 rfl inf76) rfl ⟨_, _, _, _, _, rfl, .leaf _ _, HFZ.out⟩
 · go_enter Tryz.func13, Tryz.ntmps13
   go_wp2_with fail
   refine (HFF.out _ _).mono ?_
   rintro e w1 ⟨rfl, rfl⟩
   generalize (((w.alloc (.cells #[.int .i64 1, .string i, .slice none 0 0] 62)).alloc (.cells #[.int .i64 0, .int .i64 0, .slice none 0 0] 76)).alloc (.cells #[.int .i64 1, .int .i64 0, .slice none 0 0] 76)) = w3 at *
   go_wp2_with ((with_reducible change wpList _ _ _ (Oper.mk _ (.store 3 _ _) _ _ _ _ :: _) _ _); refine wpList_store_cell rfl 3 _ _ rfl (w.heap.size + 2) 1 (.int .i64 (φ i)) rfl rfl rfl 76 _ HO.out (by exact Nat.le_of_ble_eq_true rfl) (by kernel_rfl) rfl ?_)
   refine Lib.hid ?_
   rintro w4 ho4 hf4
   have HO4 := Lib.hid (show Blk w4 (w.heap.size + 2) 76 #[.int .i64 1, .int .i64 (φ i), .slice none 0 0] from ho4)
   have hx4 := HX3.out.oth hf4 (by omega)
   have c4 : w4.cell? ⟨w.heap.size, 2, none⟩ = some (.slice none 0 0) := hx4.cell 2
   have HY4 := Lib.hid (HY3.out.oth hf4 (by omega))
   have HF4 := Lib.hid (HF3.out.andX hf4 (by omega))
   clear ho4 hf4 hx4 c3
   go_wp2_with fail
   go_loopg [27] (0) (fun gk a wr => a = .int .i64 0 ∧ w4 = wr)
   case atStart => exact ⟨rfl, rfl⟩
   case round =>
    obtain ⟨rfl, rfl⟩ := hrel
    go_wp2_with (first | ((with_reducible change wpList _ _ _ (Oper.mk _ (.load 76 _) _ _ _ _ :: _) _ _); refine wpList_load_blk rfl 76 _ rfl _ rfl 76 #[.int .i64 1, .int .i64 (φ i), .slice none 0 0] HO4.out _ Tryz.underlying76 rfl inf76 ?_) | ((with_reducible change wpList _ _ _ (Oper.mk _ (.store 76 _ _) _ _ _ _ :: _) _ _); refine wpList_store_blkH rfl 76 _ _ rfl _ #[.int .i64 1, .int .i64 (φ i), .slice none 0 0] rfl rfl 76 _ HY4.out (by rfl) (by exact inf76) (cells76 _ _ _ _ _).one ?_))
    refine Lib.hid ?_
    rintro wz hbz hfz
    have HFZ := Lib.hid ((HF4.out.andX hfz (by omega)).shut (Nat.le_refl _))
    go_wp2_with fail
    exact bodyPost_ret (v := .agg #[.int .i64 1, .int .i64 (φ i), .slice none 0 0]) (results_cell_row rfl _ _ (w.heap.size + 1) 76 _ (0, 0) _ rfl hbz Tryz.underlying76 rfl inf76) rfl ⟨_, _, _, _, _, rfl, .leaf _ _, HFZ.out⟩

set_option maxRecDepth 100000 in
set_option maxHeartbeats 8000000 in
theorem number_node (φ : ByteArray → Int) (F : Nat) (k : Int) (hk : 2 ≤ k) (hk6 : k ≤ 6) (ts : List PT) (hlen : ts.length ≤ 5000) (w : World) (B : Nat) (A : Option Addr) (c : Nat) (L : List (List Value)) (h : PartAt w B A c ts L)
    (HN : ∀ (w1 : World) (t : PT) (l : List Value), t ∈ ts → PAt 62 w1 B t l → Calls Tryz.prog 13 #[.agg l.toArray, .func (.func F) #[] #[]] w1 (NPost φ t w1)) :
    Calls Tryz.prog 13 #[.agg #[.int .i64 k, .string ⟨#[]⟩, .slice A ts.length c], .func (.func F) #[] #[]] w (NPost φ (.node k ts) w) := by
 obtain ⟨i76, hi76, hz760, hz761, hz762⟩ := info_parts infZ76
 have hf0 : Fr (fun _ => False) w (((w.alloc (.cells #[.int .i64 k, .string ⟨#[]⟩, .slice A ts.length c] 62)).alloc (.cells #[.int .i64 0, .int .i64 0, .slice none 0 0] 76)).alloc (.cells #[.int .i64 k, .int .i64 0, .slice none 0 0] 76)) := (((Fr.refl _ _).alloc _).alloc _).alloc _
 have hz : (w.alloc (.cells #[.int .i64 k, .string ⟨#[]⟩, .slice A ts.length c] 62)).heap.size = w.heap.size + 1 := by simp
 have hz2 : ((w.alloc (.cells #[.int .i64 k, .string ⟨#[]⟩, .slice A ts.length c] 62)).alloc (.cells #[.int .i64 0, .int .i64 0, .slice none 0 0] 76)).heap.size = w.heap.size + 2 := by simp
 have hz3 : (((w.alloc (.cells #[.int .i64 k, .string ⟨#[]⟩, .slice A ts.length c] 62)).alloc (.cells #[.int .i64 0, .int .i64 0, .slice none 0 0] 76)).alloc (.cells #[.int .i64 k, .int .i64 0, .slice none 0 0] 76)).heap.size = w.heap.size + 3 := by simp
 have hy := Blk.new (w.alloc (.cells #[.int .i64 k, .string ⟨#[]⟩, .slice A ts.length c] 62)) 76 #[.int .i64 0, .int .i64 0, .slice none 0 0]
 rw [hz] at hy
 have ho := Blk.new ((w.alloc (.cells #[.int .i64 k, .string ⟨#[]⟩, .slice A ts.length c] 62)).alloc (.cells #[.int .i64 0, .int .i64 0, .slice none 0 0] 76)) 76 #[.int .i64 k, .int .i64 0, .slice none 0 0]
 rw [hz2] at ho
 have hx := ((Blk.new w 62 #[.int .i64 k, .string ⟨#[]⟩, .slice A ts.length c]).alloc (.cells #[.int .i64 0, .int .i64 0, .slice none 0 0] 76)).alloc (.cells #[.int .i64 k, .int .i64 0, .slice none 0 0] 76)
 have HX := Lib.hid hx
 have HY := Lib.hid (hy.alloc (.cells #[.int .i64 k, .int .i64 0, .slice none 0 0] 76))
 have HO := Lib.hid ho
 have HFr := Lib.hid hf0.up
 have HPA := Lib.hid h
 have HNN := Lib.hid HN
 have hb0 : (k == 0) = false := by simp; omega
 have hb1 : (k == 1) = false := by simp; omega
 have c2 : (((w.alloc (.cells #[.int .i64 k, .string ⟨#[]⟩, .slice A ts.length c] 62)).alloc (.cells #[.int .i64 0, .int .i64 0, .slice none 0 0] 76)).alloc (.cells #[.int .i64 k, .int .i64 0, .slice none 0 0] 76)).cell? ⟨w.heap.size, 2, none⟩ = some (.slice A ts.length c) := hx.cell 2
 have hcap : (ts.length : Int) ≤ (c : Int) := by
  rcases h.2.2.2 with ⟨h0, h1⟩ | ⟨gg, cap, cur, h0, _, _, hc, _⟩
  · omega
  · injection h0 with _ _ h0
    omega
 obtain ⟨n, hn⟩ : ∃ n, n = ts.length := ⟨_, rfl⟩
 rw [← hn] at hlen hcap HX HY HO HFr c2 hz3 ⊢
 have HN' := Lib.hid hn
 clear hf0 hx hy ho h HN hk hz hz2 hn hk6
 go_enter Tryz.func13, Tryz.ntmps13
 go_wp2_with fail
 generalize (((w.alloc (.cells #[.int .i64 k, .string ⟨#[]⟩, .slice A n c] 62)).alloc (.cells #[.int .i64 0, .int .i64 0, .slice none 0 0] 76)).alloc (.cells #[.int .i64 k, .int .i64 0, .slice none 0 0] 76)) = w3 at *
 go_loopg [27] (n) (fun gk a wr => ∃ (j : Nat) (A3 : Option Addr) (c3 : Nat) (done : List PT) (L3 : List (List Value)), a = .int .i64 (j : Int) ∧ n ≤ j + gk ∧ j ≤ n ∧ done = ts.take j ∧ TParts (nF φ) nZ 76 wr (w.heap.size + 3) (.slice A3 j c3) done L3 ∧ Blk wr (w.heap.size + 2) 76 #[.int .i64 k, .int .i64 0, .slice A3 j c3] ∧ Blk wr (w.heap.size + 1) 76 #[.int .i64 0, .int .i64 0, .slice none 0 0] ∧ Fr (fun j => w.heap.size ≤ j) w wr)
 case atStart => exact ⟨0, none, 0, [], [], rfl, by omega, by omega, by simp, TParts.nil _ _, HO.out, HY.out, HFr.out⟩
 case round =>
  clear HX HY HO HFr c2
  obtain ⟨j, A3, c3, done, L3, rfl, hgk, hj, hdone, htp, hob, hrb, hfr⟩ := hrel
  have HTP := Lib.hid htp
  have HOB := Lib.hid hob
  have HRB := Lib.hid hrb
  have HFR := Lib.hid hfr
  have HD := Lib.hid hdone
  have hol := hob.lt
  clear htp hob hrb hfr hdone
  by_cases hjn : j < n
  · have hp := HPA.out.frF (HFR.out.shut (Nat.le_refl _))
    have hjt : j < ts.length := by rw [← HN'.out]; exact hjn
    have hjL : j < L.length := by rw [hp.1]; exact hjt
    have h1 := List.getElem?_eq_getElem hjL
    have h2 := List.getElem?_eq_getElem hjt
    have hpa := hp.2.1 j _ _ h2 h1
    obtain ⟨g, hA⟩ : ∃ g, A = some ⟨g, 0, none⟩ := by
     rcases hp.2.2.2 with ⟨h0, h1⟩ | ⟨gg, cap, cur, h0, _⟩
     · omega
     · injection h0 with h0 _ _
       exact ⟨gg, h0⟩
    subst hA
    have HRA := Lib.hid (row_range hp.2.2 hp.three h1)
    obtain ⟨k2, i2, A2, n2, c2, hl⟩ := hpa.cells
    rw [hl, Nat.mul_comm] at HRA
    rw [hl] at hpa
    have HC := Lib.hid (fun w1 (hf : Fr (fun _ => False) wr w1) => HNN.out w1 ts[j] _ (List.getElem_mem _) (hpa.frF hf))
    have HDN := Lib.hid (show done ++ [ts[j]] = ts.take (j + 1) by rw [HD.out, List.take_succ_eq_append_getElem hjt])
    have HDL := Lib.hid (show done.length = j by rw [HD.out, List.length_take]; omega)
    generalize ts[j] = tj at *
    clear h1 h2 hpa hp hl hjL hjt HNN HPA
    have hj0 : (0 : Int) ≤ (j : Int) := by omega
    have hjn2 : (j : Int) < (n : Int) := by omega
    have hf4 : Fr (fun _ => False) wr (wr.alloc (.cells #[.int .i64 k2, .string i2, .slice A2 n2 c2] 62)) := (Fr.refl _ _).alloc _
    have hx4 := Blk.new wr 62 #[.int .i64 k2, .string i2, .slice A2 n2 c2]
    have p0 : (wr.alloc (.cells #[.int .i64 k2, .string i2, .slice A2 n2 c2] 62)).cell? ⟨wr.heap.size, 0, none⟩ = some (.int .i64 k2) := hx4.cell 0
    have p1 : (wr.alloc (.cells #[.int .i64 k2, .string i2, .slice A2 n2 c2] 62)).cell? ⟨wr.heap.size, 1, none⟩ = some (.string i2) := hx4.cell 1
    have p2 : (wr.alloc (.cells #[.int .i64 k2, .string i2, .slice A2 n2 c2] 62)).cell? ⟨wr.heap.size, 2, none⟩ = some (.slice A2 n2 c2) := hx4.cell 2
    have o4 : (wr.alloc (.cells #[.int .i64 k2, .string i2, .slice A2 n2 c2] 62)).cell? ⟨w.heap.size + 1 + 1, 2, none⟩ = some (.slice A3 j c3) := (HOB.out.fr hf4 (fun h => h)).cell 2
    have HOB4 := Lib.hid (HOB.out.fr hf4 (fun h => h))
    have HRB4 := Lib.hid (HRB.out.fr hf4 (fun h => h))
    have HTP4 := Lib.hid (HTP.out.frF hf4)
    have HFR4 := Lib.hid (HFR.out.andF hf4)
    have HC4 := Lib.hid (fun w1 (hf : Fr (fun _ => False) (wr.alloc (.cells #[.int .i64 k2, .string i2, .slice A2 n2 c2] 62)) w1) => HC.out w1 (hf4.trans' hf))
    unfold NPost at HC4
    have hw34 : w.heap.size + 3 ≤ wr.heap.size := by omega
    clear hx4 hf4 HC
    go_wp2_with ((with_reducible change wpList _ _ _ (Oper.mk _ (.load 62 _) _ _ _ _ :: _) _ _); refine wpList_load_mid rfl 62 _ rfl _ _ rfl _ _ HRA.out Tryz.underlying62 rfl inf62 ?_)
    go_region_law (first
     | (go_simp; go_at_call 13; refine (HC4.out _ (by repeat' (first | exact Fr.refl _ _ | refine Fr.drew ?_))).mono ?_; rintro e w6 ⟨k5, N5, A5, n5, c5, rfl, hna, hf6⟩; have F6 : Fr (fun _ => False) (wr.alloc (.cells #[.int .i64 k2, .string i2, .slice A2 n2 c2] 62)) w6 := Fr.trans' (by repeat' (first | exact Fr.refl _ _ | refine Fr.drew ?_)) hf6; have ho6 := HOB4.out.fr F6 (fun h => h); have o6 : w6.cell? ⟨w.heap.size + 1 + 1, 2, none⟩ = some (.slice A3 j c3) := ho6.cell 2; have l6 : w.heap.size + 1 + 1 < w6.heap.size := ho6.lt; have htp6 := HTP4.out.frF F6; have hlr6 := htp6.row)
     | (refine step_append_lies _ (by rfl) _ _ 74 (by rfl) (w.heap.size + 3) 76 i76 _ 3 40 Tryz.underlying74 hi76 hz760 hz761 hz762 rfl (by decide) (.slice A3 j c3) j L3.flatten (by rfl) (by have h := hlr6.alloc (.cells #[.int .i64 k5, .int .i64 N5, .slice A5 n5 c5] 76); rw [HDL.out] at h; exact h) _ 1 1 [.int .i64 k5, .int .i64 N5, .slice A5 n5 c5] (by rfl) rfl (World.news_of_block (heap_alloc_new w6 _)) (by intro u hu; simp only [List.mem_cons, List.not_mem_nil, or_false] at hu; rcases hu with rfl | rfl | rfl <;> rfl) (by decide) (by unfold maxLen; omega) (by omega) (by have := F6.size; have h9 : wr.heap.size ≤ (wr.alloc (.cells #[.int .i64 k2, .string i2, .slice A2 n2 c2] 62)).heap.size := (by simp); simp; omega) _ rfl ?_; intro g8 cap8 w8 hown8 hgr8 hor8 hlt8; have ho8 := (ho6.fr ((Fr.refl (fun _ => False) w6).alloc _) (fun h => h)).fr (Fr.of_grown hgr8) (fun e => by have := own_ge hlr6 e; omega); have o8 : w8.cell? ⟨w.heap.size + 1 + 1, 2, none⟩ = some (.slice A3 j c3) := ho8.cell 2; have f8 : w8.frozen? ⟨w.heap.size + 1 + 1, 2, none⟩ = false := ho8.frozen 2; have l8 : w.heap.size + 1 + 1 < w8.heap.size := ho8.lt))
    all_goals
     have FS : Fr (fun j => j = w.heap.size + 1 + 1) w8 (w8.setCell ⟨w.heap.size + 1 + 1, 2, none⟩ (.slice (some ⟨g8, 0, none⟩) (j + 1) cap8)) := (Fr.refl (fun j => j = w.heap.size + 1 + 1) w8).setCell ⟨w.heap.size + 1 + 1, 2, none⟩ (fun _ => rfl) _
     have hs4 : (wr.alloc (.cells #[.int .i64 k2, .string i2, .slice A2 n2 c2] 62)).drew.heap.size = wr.heap.size + 1 := by simp
     have hp6 := TParts.push (w' := w8) (l := [.int .i64 k5, .int .i64 N5, .slice A5 n5 c5]) (htp6.frF ((Fr.refl (fun _ => False) w6).alloc (.cells #[.int .i64 k5, .int .i64 N5, .slice A5 n5 c5] 76))) ((TBt.imp (S' := fun i => w.heap.size + 3 ≤ i ∧ (Value.slice A3 j c3).ownBlock ≠ some i) (fun i _ hb => ⟨by omega, fun e => by have := (World.ownsRow.lt HTP.out.row _ e).2; omega⟩) hna).fr ((Fr.refl (fun _ => False) w6).alloc (.cells #[.int .i64 k5, .int .i64 N5, .slice A5 n5 c5] 76)) (fun _ _ h => h)) (by rw [HDL.out]; exact hown8) hgr8 hor8
     rw [HDL.out, HDN.out] at hp6
     have HTP9 := Lib.hid (hp6.frX (by omega) FS)
     have HOB9 := Lib.hid (show Blk (w8.setCell ⟨w.heap.size + 1 + 1, 2, none⟩ (.slice (some ⟨g8, 0, none⟩) (j + 1) cap8)) (w.heap.size + 2) 76 #[.int .i64 k, .int .i64 0, .slice (some ⟨g8, 0, none⟩) (j + 1) cap8] from ho8.set_ 2 _)
     have hrb8 := ((HRB4.out.fr F6 (fun h => h)).alloc (.cells #[.int .i64 k5, .int .i64 N5, .slice A5 n5 c5] 76)).fr (Fr.of_grown hgr8) (fun e => by have := own_ge hlr6 e; omega)
     have HRB9 := Lib.hid (hrb8.fr FS (by omega))
     have HFR9 := Lib.hid ((((HFR4.out.andF F6).alloc (.cells #[.int .i64 k5, .int .i64 N5, .slice A5 n5 c5] 76)).grown hgr8 (fun i _ e => by have := own_ge hlr6 e; omega)).andX FS (by omega))
     clear hna hf6 F6 ho6 o6 l6 htp6 hlr6 hown8 hgr8 hor8 hlt8 ho8 o8 f8 l8 FS hs4 hp6 hrb8 HTP HOB HRB HFR HTP4 HOB4 HRB4 HFR4 HC4 HRA p0 p1 p2 o4 HDN HDL HD
     go_wp2_with fail
     go_roundg (n - (j + 1))
     case measure => omega
     exact ⟨j + 1, _, _, _, _, by push_cast; rfl, by omega, by omega, rfl, HTP9.out, HOB9.out, HRB9.out, HFR9.out⟩
  · obtain rfl : j = n := by omega
    have HDT := Lib.hid (show done = ts by rw [HD.out, HN'.out, List.take_length])
    have HNA := Lib.hid (fun wz (hfz : Fr (fun j => j = w.heap.size + 1) wr wz) => show NAt φ wz w.heap.size (.node k ts) [.int .i64 k, .int .i64 0, .slice A3 j c3] by
     have h3 := (HTP.out.frX (by omega) hfz)
     have hl : done.length = j := by rw [HDT.out, HN'.out]
     rw [← hl] at h3 ⊢
     rw [← HDT.out]
     exact (h3.node k).imp (fun _ _ hb => by omega))
    clear HNN HPA HTP
    go_wp2_with (first | ((with_reducible change wpList _ _ _ (Oper.mk _ (.load 76 _) _ _ _ _ :: _) _ _); refine wpList_load_blk rfl 76 _ rfl _ rfl 76 #[.int .i64 k, .int .i64 0, .slice A3 j c3] HOB.out _ Tryz.underlying76 rfl inf76 ?_) | ((with_reducible change wpList _ _ _ (Oper.mk _ (.store 76 _ _) _ _ _ _ :: _) _ _); refine wpList_store_blkH rfl 76 _ _ rfl _ #[.int .i64 k, .int .i64 0, .slice A3 j c3] rfl rfl 76 _ HRB.out (by rfl) (by exact inf76) (cells76 _ _ _ _ _).one ?_))
    refine Lib.hid ?_
    rintro wz hbz hfz
    have HFZ := Lib.hid ((HFR.out.andX hfz (by omega)).shut (Nat.le_refl _))
    go_wp2_with fail
    exact bodyPost_ret (v := .agg #[.int .i64 k, .int .i64 0, .slice A3 j c3]) (results_cell_row rfl _ _ (w.heap.size + 1) 76 _ (0, 0) _ rfl hbz Tryz.underlying76 rfl inf76) rfl ⟨_, _, _, _, _, rfl, HNA.out wz hfz, HFZ.out⟩

theorem AtomP.kinds {rs : List Int} {P : Nat → PT → Nat → Nat → Prop} (hP : ∀ p t e d, P p t e d → Kinds t) {p e d : Nat} {t : PT} (h : AtomP rs P p t e d) : Kinds t := by
 cases h with
 | paren _ e0 _ h1 h2 h3 => exact hP _ _ _ _ h2
 | back _ i h1 h2 h3 => exact .leaf _ _ (.inr rfl)
 | step _ i h1 h2 h3 => exact .leaf _ _ (.inl rfl)
theorem StepP.kinds {rs : List Int} {P : Nat → PT → Nat → Nat → Prop} (hP : ∀ p t e d, P p t e d → Kinds t) {p e d : Nat} {t : PT} (h : StepP rs P p t e d) : Kinds t := by
 cases h with
 | plain _ _ _ h1 h2 => exact h1.kinds hP
 | often t0 e0 d0 h1 h2 =>
  have hk : oftenP rs e0 = 4 ∨ oftenP rs e0 = 5 ∨ oftenP rs e0 = 6 := by
   unfold oftenP at h2 ⊢
   split
   · exact .inl rfl
   · split
     · exact .inr (.inl rfl)
     · split
       · exact .inr (.inr rfl)
       · rename_i a b c
         rw [if_neg a, if_neg b, if_neg c] at h2
         exact absurd rfl h2
  exact .node _ _ (by omega) (by omega) (fun t ht => by rw [List.mem_singleton.1 ht]; exact h1.kinds hP)
theorem RunP.kinds {rs : List Int} {x : UInt8} {One : Nat → PT → Nat → Nat → Prop} (hP : ∀ p t e d, One p t e d → Kinds t) {p e d : Nat} {ts : List PT} (h : RunP rs x One p ts e d) : ∀ t, t ∈ ts → Kinds t := by
 induction h with
 | one t e d h => exact fun u hu => by rw [List.mem_singleton.1 hu]; exact hP _ _ _ _ h
 | more ts t e d e1 d1 h h1 h2 ih =>
  intro u hu
  rcases List.mem_append.1 hu with hu | hu
  · exact ih u hu
  · rw [List.mem_singleton.1 hu]
    exact hP _ _ _ _ h2
theorem SepP.kinds {rs : List Int} {x : UInt8} {k : Int} (hk : 2 ≤ k) (hk6 : k ≤ 6) {One : Nat → PT → Nat → Nat → Prop} (hP : ∀ p t e d, One p t e d → Kinds t) {p e d : Nat} {t : PT} (h : SepP rs x k One p t e d) : Kinds t := by
 cases h with
 | one _ _ _ h h2 => exact h.kinds hP t (List.mem_singleton.2 rfl)
 | many ts _ d0 h h1 h2 => exact .node _ _ hk hk6 (h.kinds hP)
theorem PathP.kinds {rs : List Int} : ∀ (n : Nat) (p : Nat) (t : PT) (e d : Nat), PathP rs n p t e d → Kinds t
 | 0, _, _, _, _, h => h.elim
 | n + 1, _, _, _, _, h => SepP.kinds (by decide) (by decide) (fun _ _ _ _ h1 => SepP.kinds (by decide) (by decide) (fun _ _ _ _ h2 => StepP.kinds (fun _ _ _ _ h3 => PathP.kinds n _ _ _ _ h3) h2) h1) h
/-- The path by numbers. -/
theorem number_ok (φ : ByteArray → Int) (F : Nat) (hen : ∀ args w, (callFunc F args).run Tryz.prog w = .ok (.enter F args) w) (HF : ∀ i w, Calls Tryz.prog F #[.string i] w fun e w' => e = .returned (.int .i64 (φ i)) ∧ w = w') (t : PT) (hk : Kinds t) :
    Wide t → ∀ (w : World) (B : Nat) (l : List Value), PAt 62 w B t l → Calls Tryz.prog 13 #[.agg l.toArray, .func (.func F) #[] #[]] w (NPost φ t w) := by
 induction hk with
 | leaf k i h =>
  intro _ w B l hl
  cases hl
  exact number_leaf φ F hen HF k h i w
 | node k ts h h2 hp ih =>
  intro hw w B l hl
  cases hw with
  | node _ _ hn hw =>
   cases hl with
   | node _ _ A c L hL hpp hr => exact number_node φ F k h h2 ts hn w B A c L ⟨hL, hpp, hr⟩ (fun w1 t l ht hl => ih t ht (hw t ht) w1 B l hl)
set_option maxRecDepth 100000 in
theorem size14 (i : ByteArray) (w : World) : Calls Tryz.prog 14 #[.string i] w fun e w' => e = .returned (.int .i64 (i.size : Int)) ∧ w = w' := by
 go_enter Tryz.func14, Tryz.ntmps14
 go_wp2_with fail
 go_ret
 exact ⟨rfl, rfl⟩
set_option maxRecDepth 100000 in
theorem zero141 (i : ByteArray) (w : World) : Calls Tryz.prog 141 #[.string i] w fun e w' => e = .returned (.int .i64 0) ∧ w = w' := by
 go_enter Tryz.func141, Tryz.ntmps141
 go_wp2_with fail
 go_ret
 exact ⟨rfl, rfl⟩

theorem enter14 (args : Array Value) (w : World) : (callFunc 14 args).run Tryz.prog w = .ok (.enter 14 args) w := by kernel_rfl
theorem enter141 (args : Array Value) (w : World) : (callFunc 141 args).run Tryz.prog w = .ok (.enter 141 args) w := by kernel_rfl
/-- What the program says its number is, of an IRI's size. -/
abbrev sz (i : ByteArray) : Int := (i.size : Int)
set_option maxRecDepth 100000 in
set_option maxHeartbeats 8000000 in
theorem numbered_leaf (k : Int) (hk : k = 0 ∨ k = 1) (i : ByteArray) (w : World) :
    Calls Tryz.prog 12 #[.agg #[.int .i64 k, .string i, .slice none 0 0], .agg #[.int .i64 k, .int .i64 (sz i), .slice none 0 0]] w (IsB true w) := by
 have hf0 : Fr (fun _ => False) w ((w.alloc (.cells #[.int .i64 k, .string i, .slice none 0 0] 39)).alloc (.cells #[.int .i64 k, .int .i64 (sz i), .slice none 0 0] 76)) := ((Fr.refl _ _).alloc _).alloc _
 have hx := (Blk.new w 39 #[.int .i64 k, .string i, .slice none 0 0]).alloc (.cells #[.int .i64 k, .int .i64 (sz i), .slice none 0 0] 76)
 have hy := Blk.new (w.alloc (.cells #[.int .i64 k, .string i, .slice none 0 0] 39)) 76 #[.int .i64 k, .int .i64 (sz i), .slice none 0 0]
 rw [show (w.alloc (.cells #[.int .i64 k, .string i, .slice none 0 0] 39)).heap.size = w.heap.size + 1 by simp] at hy
 have HF := Lib.hid hf0
 have x0 : ((w.alloc (.cells #[.int .i64 k, .string i, .slice none 0 0] 39)).alloc (.cells #[.int .i64 k, .int .i64 (sz i), .slice none 0 0] 76)).cell? ⟨w.heap.size, 0, none⟩ = some (.int .i64 k) := hx.cell 0
 have x1 : ((w.alloc (.cells #[.int .i64 k, .string i, .slice none 0 0] 39)).alloc (.cells #[.int .i64 k, .int .i64 (sz i), .slice none 0 0] 76)).cell? ⟨w.heap.size, 1, none⟩ = some (.string i) := hx.cell 1
 have x2 : ((w.alloc (.cells #[.int .i64 k, .string i, .slice none 0 0] 39)).alloc (.cells #[.int .i64 k, .int .i64 (sz i), .slice none 0 0] 76)).cell? ⟨w.heap.size, 2, none⟩ = some (.slice none 0 0) := hx.cell 2
 have y0 : ((w.alloc (.cells #[.int .i64 k, .string i, .slice none 0 0] 39)).alloc (.cells #[.int .i64 k, .int .i64 (sz i), .slice none 0 0] 76)).cell? ⟨w.heap.size + 1, 0, none⟩ = some (.int .i64 k) := hy.cell 0
 have y1 : ((w.alloc (.cells #[.int .i64 k, .string i, .slice none 0 0] 39)).alloc (.cells #[.int .i64 k, .int .i64 (sz i), .slice none 0 0] 76)).cell? ⟨w.heap.size + 1, 1, none⟩ = some (.int .i64 (sz i)) := hy.cell 1
 have y2 : ((w.alloc (.cells #[.int .i64 k, .string i, .slice none 0 0] 39)).alloc (.cells #[.int .i64 k, .int .i64 (sz i), .slice none 0 0] 76)).cell? ⟨w.heap.size + 1, 2, none⟩ = some (.slice none 0 0) := hy.cell 2
 clear hx hy hf0
 rcases hk with rfl | rfl
 all_goals
  go_enter Tryz.func12, Tryz.ntmps12
  go_wp2_with fail
  generalize ((w.alloc (.cells #[.int .i64 _, .string i, .slice none 0 0] 39)).alloc (.cells #[.int .i64 _, .int .i64 (sz i), .slice none 0 0] 76)) = w3 at *
  go_loopg [46] (0) (fun gk a wr => a = .int .i64 0 ∧ w3 = wr)
  case atStart => exact ⟨rfl, rfl⟩
  case round =>
   obtain ⟨rfl, rfl⟩ := hrel
   go_wp2_with fail
   go_ret
   exact IsB.mk HF.out

theorem row_cap {w : World} {B e m n c : Nat} {A : Option Addr} {L : List Value} (h : w.ownsRow B e m (.slice A n c) n L) : (n : Int) ≤ (c : Int) := by
 rcases h.2 with ⟨h0, h1⟩ | ⟨gg, cap, cur, h0, _, _, hc, _⟩
 · omega
 · injection h0 with _ _ h0
   omega
theorem row_addr {w : World} {B e m n c : Nat} {A : Option Addr} {L : List Value} (h : w.ownsRow B e m (.slice A n c) n L) (hn : 0 < n) : ∃ g, A = some ⟨g, 0, none⟩ := by
 rcases h.2 with ⟨h0, h1⟩ | ⟨gg, cap, cur, h0, _⟩
 · omega
 · injection h0 with h0 _ _
   exact ⟨gg, h0⟩
/-- A path's parts as the document has them. -/
def TParts39 (w : World) (B : Nat) (A : Option Addr) (c : Nat) (ts : List PT) (L : List (List Value)) : Prop :=
 L.length = ts.length ∧ (∀ (i : Nat) t l, ts[i]? = some t → L[i]? = some l → PAt 39 w B t l) ∧ w.ownsRow B 39 3 (.slice A ts.length c) ts.length L.flatten
theorem TParts39.frF {w w' : World} {B c : Nat} {A : Option Addr} {ts : List PT} {L : List (List Value)} (h : TParts39 w B A c ts L) (hf : Fr (fun _ => False) w w') : TParts39 w' B A c ts L :=
 ⟨h.1, fun i t l h1 h2 => (h.2.1 i t l h1 h2).frF hf, ownsRow_fr h.2.2 hf (fun _ _ h => h)⟩
theorem TParts39.three {w : World} {B c : Nat} {A : Option Addr} {ts : List PT} {L : List (List Value)} (h : TParts39 w B A c ts L) : ∀ l ∈ L, l.length = 3 := fun l hl => by
 obtain ⟨i, hi⟩ := List.getElem?_of_mem hl
 have hlt := (List.getElem?_eq_some_iff.1 hi).1
 have ht := List.getElem?_eq_getElem (l := ts) (i := i) (by rw [← h.1]; exact hlt)
 obtain ⟨k, t, A', n, c', rfl⟩ := (h.2.1 i _ l ht hi).cells
 rfl
/-- A path's parts by numbers. -/
def TParts76 (w : World) (B : Nat) (A : Option Addr) (c : Nat) (ts : List PT) (L : List (List Value)) : Prop :=
 L.length = ts.length ∧ (∀ (i : Nat) t l, ts[i]? = some t → L[i]? = some l → NAt sz w B t l) ∧ w.ownsRow 0 76 3 (.slice A ts.length c) ts.length L.flatten
theorem TParts76.frF {w w' : World} {B c : Nat} {A : Option Addr} {ts : List PT} {L : List (List Value)} (h : TParts76 w B A c ts L) (hf : Fr (fun _ => False) w w') : TParts76 w' B A c ts L :=
 ⟨h.1, fun i t l h1 h2 => TBt.fr hf (fun _ _ h => h) (h.2.1 i t l h1 h2), ownsRow_fr h.2.2 hf (fun _ _ h => h)⟩
theorem TParts76.three {w : World} {B c : Nat} {A : Option Addr} {ts : List PT} {L : List (List Value)} (h : TParts76 w B A c ts L) : ∀ l ∈ L, l.length = 3 := fun l hl => by
 obtain ⟨i, hi⟩ := List.getElem?_of_mem hl
 have hlt := (List.getElem?_eq_some_iff.1 hi).1
 have ht := List.getElem?_eq_getElem (l := ts) (i := i) (by rw [← h.1]; exact hlt)
 obtain ⟨k, t, A', n, c', rfl, _⟩ := TBt.cells (h.2.1 i _ l ht hi)
 rfl
set_option maxRecDepth 100000 in
set_option maxHeartbeats 8000000 in
theorem numbered_node (k : Int) (hk : 2 ≤ k) (ts : List PT) (hlen : ts.length ≤ 5000) (w : World) (B1 B2 : Nat) (A1 A2 : Option Addr) (c1 c2 : Nat) (L1 L2 : List (List Value)) (h1 : TParts39 w B1 A1 c1 ts L1) (h2 : TParts76 w B2 A2 c2 ts L2)
    (HN : ∀ (w1 : World) (t : PT) (l1 l2 : List Value), t ∈ ts → PAt 39 w1 B1 t l1 → NAt sz w1 B2 t l2 → Calls Tryz.prog 12 #[.agg l1.toArray, .agg l2.toArray] w1 (IsB true w1)) :
    Calls Tryz.prog 12 #[.agg #[.int .i64 k, .string ⟨#[]⟩, .slice A1 ts.length c1], .agg #[.int .i64 k, .int .i64 0, .slice A2 ts.length c2]] w (IsB true w) := by
 have hcap1 : (ts.length : Int) ≤ (c1 : Int) := row_cap h1.2.2
 have hcap2 : (ts.length : Int) ≤ (c2 : Int) := row_cap h2.2.2
 obtain ⟨n, hn⟩ : ∃ n, n = ts.length := ⟨_, rfl⟩
 have HP1 := Lib.hid h1
 have HP2 := Lib.hid h2
 have HNN := Lib.hid HN
 rw [← hn] at hlen hcap1 hcap2 ⊢
 have HN' := Lib.hid hn
 have hf0 : Fr (fun _ => False) w ((w.alloc (.cells #[.int .i64 k, .string ⟨#[]⟩, .slice A1 n c1] 39)).alloc (.cells #[.int .i64 k, .int .i64 0, .slice A2 n c2] 76)) := ((Fr.refl _ _).alloc _).alloc _
 have hx := (Blk.new w 39 #[.int .i64 k, .string ⟨#[]⟩, .slice A1 n c1]).alloc (.cells #[.int .i64 k, .int .i64 0, .slice A2 n c2] 76)
 have hy := Blk.new (w.alloc (.cells #[.int .i64 k, .string ⟨#[]⟩, .slice A1 n c1] 39)) 76 #[.int .i64 k, .int .i64 0, .slice A2 n c2]
 rw [show (w.alloc (.cells #[.int .i64 k, .string ⟨#[]⟩, .slice A1 n c1] 39)).heap.size = w.heap.size + 1 by simp] at hy
 have HF := Lib.hid hf0
 have HX := Lib.hid hx
 have HY := Lib.hid hy
 have x0 : ((w.alloc (.cells #[.int .i64 k, .string ⟨#[]⟩, .slice A1 n c1] 39)).alloc (.cells #[.int .i64 k, .int .i64 0, .slice A2 n c2] 76)).cell? ⟨w.heap.size, 0, none⟩ = some (.int .i64 k) := hx.cell 0
 have x2 : ((w.alloc (.cells #[.int .i64 k, .string ⟨#[]⟩, .slice A1 n c1] 39)).alloc (.cells #[.int .i64 k, .int .i64 0, .slice A2 n c2] 76)).cell? ⟨w.heap.size, 2, none⟩ = some (.slice A1 n c1) := hx.cell 2
 have y0 : ((w.alloc (.cells #[.int .i64 k, .string ⟨#[]⟩, .slice A1 n c1] 39)).alloc (.cells #[.int .i64 k, .int .i64 0, .slice A2 n c2] 76)).cell? ⟨w.heap.size + 1, 0, none⟩ = some (.int .i64 k) := hy.cell 0
 have y1 : ((w.alloc (.cells #[.int .i64 k, .string ⟨#[]⟩, .slice A1 n c1] 39)).alloc (.cells #[.int .i64 k, .int .i64 0, .slice A2 n c2] 76)).cell? ⟨w.heap.size + 1, 1, none⟩ = some (.int .i64 0) := hy.cell 1
 have y2 : ((w.alloc (.cells #[.int .i64 k, .string ⟨#[]⟩, .slice A1 n c1] 39)).alloc (.cells #[.int .i64 k, .int .i64 0, .slice A2 n c2] 76)).cell? ⟨w.heap.size + 1, 2, none⟩ = some (.slice A2 n c2) := hy.cell 2
 have b1 : decide (k < 2) = false := decide_eq_false (by omega)
 have b2 : decide (1 < k) = true := decide_eq_true (by omega)
 clear hx hy hf0 h1 h2 HN hn hk
 go_enter Tryz.func12, Tryz.ntmps12
 go_wp2_with fail
 generalize ((w.alloc (.cells #[.int .i64 k, .string ⟨#[]⟩, .slice A1 n c1] 39)).alloc (.cells #[.int .i64 k, .int .i64 0, .slice A2 n c2] 76)) = w3 at *
 clear x0 x2 y0 y1 y2
 go_loopg [46] (n) (fun gk a wr => ∃ j : Nat, a = .int .i64 (j : Int) ∧ n ≤ j + gk ∧ j ≤ n ∧ Fr (fun _ => False) w wr ∧ Blk wr w.heap.size 39 #[.int .i64 k, .string ⟨#[]⟩, .slice A1 n c1] ∧ Blk wr (w.heap.size + 1) 76 #[.int .i64 k, .int .i64 0, .slice A2 n c2])
 case atStart => exact ⟨0, rfl, by omega, by omega, HF.out, HX.out, HY.out⟩
 case round =>
  clear HF HX HY
  obtain ⟨j, rfl, hgk, hj, hf, hx, hy⟩ := hrel
  have HF := Lib.hid hf
  have HX := Lib.hid hx
  have HY := Lib.hid hy
  by_cases hjn : j < n
  · have hp := HP1.out.frF hf
    have hq := HP2.out.frF hf
    have hjt : j < ts.length := by rw [← HN'.out]; exact hjn
    have hjL : j < L1.length := by rw [hp.1]; exact hjt
    have hjM : j < L2.length := by rw [hq.1]; exact hjt
    have e1 := List.getElem?_eq_getElem hjL
    have e2 := List.getElem?_eq_getElem hjM
    have et := List.getElem?_eq_getElem hjt
    have hpa := hp.2.1 j _ _ et e1
    have hqa := hq.2.1 j _ _ et e2
    obtain ⟨g1, hA⟩ := row_addr hp.2.2 (by omega)
    subst hA
    obtain ⟨g2, hA⟩ := row_addr hq.2.2 (by omega)
    subst hA
    have hr1 := row_range hp.2.2 hp.three e1
    have hr2 := row_range hq.2.2 hq.three e2
    have HC := Lib.hid (fun w1 (hfw : Fr (fun _ => False) wr w1) => HNN.out w1 ts[j] _ _ (List.getElem_mem _) (hpa.frF hfw) (hqa.fr hfw (fun _ _ h => h)))
    obtain ⟨k3, i3, A3, n3, c3, hl1⟩ := hpa.cells
    obtain ⟨k4, v4, A4, n4, c4, hl2, hv4⟩ := hqa.cells
    rw [hl1, hl2] at HC
    rw [hl1, Nat.mul_comm] at hr1
    rw [hl2, Nat.mul_comm] at hr2
    have HC2 := Lib.hid (HC.out _ (Fr.refl _ _).drew)
    have p0 : wr.cell? ⟨g1, j * 3, none⟩ = some (.int .i64 k3) := hr1 0 _ rfl
    have p1 : wr.cell? ⟨g1, j * 3 + 1, none⟩ = some (.string i3) := hr1 1 _ rfl
    have p2 : wr.cell? ⟨g1, j * 3 + 2, none⟩ = some (.slice A3 n3 c3) := hr1 2 _ rfl
    have q0 : wr.cell? ⟨g2, j * 3, none⟩ = some (.int .i64 k4) := hr2 0 _ rfl
    have q1 : wr.cell? ⟨g2, j * 3 + 1, none⟩ = some v4 := hr2 1 _ rfl
    have q2 : wr.cell? ⟨g2, j * 3 + 2, none⟩ = some (.slice A4 n4 c4) := hr2 2 _ rfl
    have x2 : wr.cell? ⟨w.heap.size, 2, none⟩ = some (.slice (some ⟨g1, 0, none⟩) n c1) := hx.cell 2
    have y2 : wr.cell? ⟨w.heap.size + 1, 2, none⟩ = some (.slice (some ⟨g2, 0, none⟩) n c2) := hy.cell 2
    have hj0 : (0 : Int) ≤ (j : Int) := by omega
    have hjn2 : (j : Int) < (n : Int) := by omega
    clear hp hq hjt hjL hjM e1 e2 et hpa hqa hr1 hr2 hl1 hl2 hf hx hy HC HP1 HP2 HNN
    go_wp2_with fail
    go_region_law (go_simp; go_at_call 12; refine HC2.out.mono ?_; rintro e w6 ⟨rfl, hf6⟩)
    all_goals
     have hf7 : Fr (fun _ => False) wr w6 := Fr.trans' (Fr.refl _ _).drew hf6
     have HF7 := Lib.hid (HF.out.trans' hf7)
     have HX7 := Lib.hid (HX.out.fr hf7 (fun h => h))
     have HY7 := Lib.hid (HY.out.fr hf7 (fun h => h))
     clear hf6 hf7 HF HX HY HC2 p0 p1 p2 q0 q1 q2 x2 y2
     go_wp2_with fail
     go_roundg (n - (j + 1))
     case measure => omega
     exact ⟨j + 1, by push_cast; rfl, by omega, by omega, HF7.out, HX7.out, HY7.out⟩
  · obtain rfl : j = n := by omega
    go_wp2_with fail
    go_ret
    exact IsB.mk HF.out
/-- The program's numbers are the document's. -/
theorem numbered_ok (t : PT) (hk : Kinds t) : Wide t → ∀ (w : World) (B1 B2 : Nat) (l1 l2 : List Value), PAt 39 w B1 t l1 → NAt sz w B2 t l2 → Calls Tryz.prog 12 #[.agg l1.toArray, .agg l2.toArray] w (IsB true w) := by
 induction hk with
 | leaf k i h =>
  intro _ w B1 B2 l1 l2 h1 h2
  cases h1
  cases h2
  exact numbered_leaf k h i w
 | node k ts h h2 hp ih =>
  intro hw w B1 B2 l1 l2 h1 h2
  cases hw with
  | node _ _ hn hw =>
   cases h1 with
   | node _ _ A c L hL hpp hr =>
    cases h2 with
    | node _ _ A' c' L' hL' hpp' hr' hS' => exact numbered_node k h ts hn w B1 B2 A A' c c' L L' ⟨hL, hpp, hr⟩ ⟨hL', hpp', hr'⟩ (fun w1 t l1 l2 ht h1 h2 => ih t ht (hw t ht) w1 B1 B2 l1 l2 h1 h2)

/-- What is known of a query's text up to its group, but what it selects. -/
def QC (rs : List Int) (l : List UInt8) (dis : Bool) (p1 p2 s2 p4 p5 p6 p7 s7 p8 : Nat) : Prop :=
 (wordAt rs 0 tREG = true ∧ wordTo rs 0 tREG = p1) ∧ (wordAt rs p1 tRS = true ∧ wordTo rs p1 tRS = p2 ∧ skip rs [0] (skip rs [0] p1) = skip rs [0] p1 ∧ wordAt rs (skip rs [0] p1) tRS = true ∧ wordTo rs (skip rs [0] p1) tRS = p2) ∧
 (skip rs [0] p2 = s2 ∧ skip rs [0] s2 = s2 ∧ (peekOf rs s2 = 60 ∧ (∀ i, i < l.length → peekOf rs (s2 + 1 + i) = ((l.getD i 0).toNat : Int) ∧ (l.getD i 0).toNat < 128 ∧ (l.getD i 0).toNat ≠ 10 ∧ (l.getD i 0).toNat ≠ 62 ∧ (l.getD i 0).toNat ≠ 92) ∧ peekOf rs (s2 + 1 + l.length) = 62)) ∧
 (wordAt rs (s2 + l.length + 2) tAS = true ∧ wordTo rs (s2 + l.length + 2) tAS = p4) ∧ (wordAt rs p4 tSEL = true ∧ wordTo rs p4 tSEL = p5) ∧ (wordAt rs p5 tDIS = dis ∧ wordTo rs p5 tDIS = p6) ∧
 (skip rs [0] p7 = s7 ∧ skip rs [0] s7 = s7 ∧ peekOf rs s7 ≠ 63 ∧ peekOf rs s7 ≠ 40) ∧ wordAt rs s7 tFROM = false ∧ (wordAt rs s7 tWH = true ∧ wordTo rs s7 tWH = p8)
instance (rs : List Int) (l : List UInt8) (dis : Bool) (p1 p2 s2 p4 p5 p6 p7 s7 p8 : Nat) : Decidable (QC rs l dis p1 p2 s2 p4 p5 p6 p7 s7 p8) := by unfold QC; infer_instance
theorem QC.text {rs : List Int} {l : List UInt8} {dis : Bool} {p1 p2 s2 p4 p5 p6 p7 s7 p8 : Nat} {sv : Value} (h : QC rs l dis p1 p2 s2 p4 p5 p6 p7 s7 p8) (h0 : l ≠ []) (h1 : l.length ≤ 4000) (h2 : (Tm.iri ⟨l.toArray⟩).good = true)
    (h3 : ∀ (b c : Nat) (A : Option Addr) (w : World), Sc w b A c rs p6 → Calls Tryz.prog 43 #[.agg #[.pointer (some ⟨b, 0, none⟩)]] w (ScPost w b A c rs p7 sv)) : QText rs l dis sv p1 p2 s2 p4 p5 p6 p7 s7 p8 := by
 obtain ⟨a1, a2, ⟨a3, a4, a5⟩, a6, a7, a8, a9, a10, a11⟩ := h
 exact ⟨a1, a2, ⟨a3, a4, a5, h0, h1, h2⟩, a6, a7, a8, h3, a9, a10, a11⟩
/-- A name, as it stands. -/
def NC (rs : List Int) (p s : Nat) (l : List UInt8) : Prop :=
 skip rs [0] p = s ∧ skip rs [0] s = s ∧ (peekOf rs s = 63 ∧ clsOf (peekOf rs (s + 1)) = 1 ∧ (∀ i, i < l.length → peekOf rs (s + 1 + i) = ((l.getD i 0).toNat : Int) ∧ (l.getD i 0).toNat < 128 ∧ letterOf ((l.getD i 0).toNat : Int) = true) ∧ letterOf (peekOf rs (s + 1 + l.length)) = false)
instance (rs : List Int) (p s : Nat) (l : List UInt8) : Decidable (NC rs p s l) := by unfold NC; infer_instance
theorem NC.name {rs : List Int} {p s : Nat} {l : List UInt8} (h : NC rs p s l) : Name rs s l := h.2.2

/-- The cells of a tree of one selected thing. -/
def PQs (G : World → Nat → Value → Prop) (kind t : ByteArray) (dis : Bool) (sv : Value) (w : World) (B : Nat) (cs : List Value) : Prop :=
 ∃ g v, cs = [.string kind, .string t, .bool dis, .slice (some ⟨g, 0, none⟩) 1 1, .slice none 0 0, v, .slice none 0 0] ∧ Blk w g 122 sv.cells ∧ G w B v
theorem plaw_pqs {G : World → Nat → Value → Prop} (HGL : GLawP G) (kind t : ByteArray) (dis : Bool) (sv : Value) : PLaw (PQs G kind t dis sv) := by
 constructor
 · rintro w B cs ⟨g, v, rfl, h1, h2⟩
   obtain ⟨A, n, c, rfl⟩ := HGL.slice h2
   exact ⟨_, _, _, _, _, _, _, _, _, _, _, _, _, _, _, rfl⟩
 · rintro w B B' cs hB ⟨g, v, rfl, h1, h2⟩
   exact ⟨g, v, rfl, h1, HGL.base hB h2⟩
 · rintro w w' B cs ⟨g, v, rfl, h1, h2⟩ hf
   exact ⟨g, v, rfl, h1.fr hf (fun h => h), HGL.frF h2 hf⟩
 · rintro w w' B x t cs ds ⟨g, v, rfl, h1, h2⟩ hx ht hf
   refine ⟨g, v, rfl, h1.fr hf (fun e => Blk.ne_ h1 hx (fun e2 => ?_) e), HGL.frB h2 hx ?_ ?_ ?_ hf⟩
   · subst e2
     rcases ht with h | h | h | h <;> exact absurd h (by decide)
   · rintro rfl
     rcases ht with h | h | h | h <;> exact absurd h (by decide)
   · rintro rfl
     rcases ht with h | h | h | h <;> exact absurd h (by decide)
   · rintro rfl
     rcases ht with h | h | h | h <;> exact absurd h (by decide)
theorem q_of_query {G : World → Nat → Value → Prop} {w : World} {b c q : Nat} {A : Option Addr} {rs : List Int} {pl : Int} {kind t : ByteArray} {dis : Bool} {sv : Value} {e : Ending} {w' : World} (h : QueryPost G w b A c rs q false pl kind t dis sv e w') : QPostS (PQs G kind t dis sv) w b A c rs q e w' := by
 unfold QueryPost at h
 rw [if_neg (by decide)] at h
 obtain ⟨g, v, rfl, h1, h2, h3, h4⟩ := h
 exact ⟨_, rfl, ⟨g, v, rfl, h1, h2⟩, h3, h4⟩
/-- The example's text. -/
def awkY : ByteArray := ⟨#[82, 69, 71, 73, 83, 84, 69, 82, 32, 82, 83, 84, 82, 69, 65, 77, 32, 60, 117, 58, 111, 62, 32, 65, 83, 32, 83, 69, 76, 69, 67, 84, 32, 63, 121, 32, 87, 72, 69, 82, 69, 32, 123, 32, 63, 120, 32, 60, 117, 58, 112, 62, 32, 49, 32, 46, 32, 125]⟩
def awkL : List Int := txt awkY
theorem awk_qc : QC awkL [117, 58, 111] false 8 16 17 25 32 33 35 36 41 := by decide +kernel
theorem awk_y : NC awkL 33 33 [121] := by decide +kernel
theorem awk_grp : (skip awkL [0] 41 = 42 ∧ peekOf awkL 42 = 123) ∧ (markAt awkL (42 + 1) ⟨#[125]⟩ = false ∧ markTo awkL (42 + 1) ⟨#[125]⟩ = 44) ∧ (skip awkL [0] 44 = 44 ∧ peekOf awkL 44 = 63) := by decide +kernel
theorem awk_s : NC awkL 44 44 [120] := by decide +kernel
theorem awk_o : clsOf (peekOf awkL 53) = 2 ∧ skip awkL [2] 53 = 54 ∧ skip awkL [0] 53 = 53 ∧ skip awkL [0] 52 = 53 := by decide +kernel
theorem awk_o2 : runesBytes ((awkL.drop 53).take (54 - 53)) = ⟨#[49]⟩ := by decide +kernel
theorem awk_e : (markAt awkL 54 ⟨#[46]⟩ = true ∧ markTo awkL 54 ⟨#[46]⟩ = 56) ∧ (markAt awkL 56 ⟨#[125]⟩ = true ∧ markTo awkL 56 ⟨#[125]⟩ = 58) ∧ wordAt awkL 58 tGR = false ∧ skip awkL [0] (skip awkL [0] 58) = awkL.length ∧ skip awkL [0] 58 = 58 := by decide +kernel
theorem awk_iri : IriP awkL 46 52 ⟨#[117, 58, 112]⟩ := ⟨by kernel_rfl, by decide +kernel⟩
theorem awk_m : markAt awkL 46 (mk1 40) = false ∧ markAt awkL 46 (mk1 94) = false ∧ oftenP awkL 52 = 0 ∧ markAt awkL 52 (mk1 47) = false ∧ markAt awkL 52 (mk1 124) = false := by decide +kernel
abbrev awkP : PT := .leaf 0 ⟨#[117, 58, 112]⟩
theorem awk_path : PathP awkL 1 46 awkP 52 1 :=
 .one _ _ _ _ (.one _ _ _ _ (.one _ _ _ _ (.one _ _ _ _ (.plain _ _ _ _ (.step _ _ _ awk_m.1 awk_m.2.1 awk_iri) awk_m.2.2.1)) awk_m.2.2.2.1)) awk_m.2.2.2.2
theorem awk_text : Text awkY awkL := ⟨by decide +kernel, by decide +kernel, by decide +kernel, by decide +kernel⟩
theorem awk_wt : awkL.length ≤ 4000 ∧ wt awkL ≤ 4000 ∧ ∀ r, r ∈ awkL → signR r = true := by decide +kernel
theorem one_parse (w : World) : Calls Tryz.prog 102 #[.string ⟨#[49]⟩] w fun e w' => e = .returned (.tuple #[.int .i64 1, .int .i64 0]) ∧ Fr (fun _ => False) w w' :=
 vparse_ok ⟨#[49]⟩ 1 w (by decide) (by decide) (by decide) (by decide) (by decide +kernel) (by decide +kernel)
/-- What the example's group is. -/
abbrev awkG : World → Nat → Value → Prop := GPath awkP ⟨#[120]⟩ ⟨#[]⟩ (intTerm ⟨#[49]⟩)
abbrev awkQ : World → Nat → List Value → Prop := PQs awkG tRS ⟨lUO.toArray⟩ false (selV [121])
theorem awk_parse (w : World) (hg : Sg w) : Calls Tryz.prog 7 #[.string awkY] w (ParsePostS awkQ w) := by
 refine parse_okG awkQ (plaw_pqs (glawp _ _ _ _) _ _ _ _) awkY 58 w awkL awk_text (by decide) awk_e.2.2.2.1 (fun b c A w1 hb hf1 hs1 => ?_)
 have hg1 := hg.frF hf1
 have htri : ∀ w2, Sg w2 → Sc w2 b A c awkL 44 → Calls Tryz.prog 105 #[.agg #[.pointer (some ⟨b, 0, none⟩)]] w2 (TriP awkL awkP ⟨#[120]⟩ ⟨#[]⟩ (intTerm ⟨#[49]⟩) 56 w2 b A c) := fun w2 hg2 hs2 =>
  ptriple awkP ⟨#[120]⟩ ⟨#[]⟩ (intTerm ⟨#[49]⟩) rfl (peekOf awkL (skip awkL [0] 46)) awkL 44 46 52 56 b c A w2 (fun w3 h3 => node_var [120] b c 44 44 A awkL w3 (by decide) awk_s.1 awk_s.2.1 awk_s.name h3) rfl (PathP.first 1 _ _ _ _ awk_path)
   (fun w3 hg3 hs3 => path_ok 1 awkL awk_wt.1 awk_wt.2.1 awk_wt.2.2 46 awkP 52 1 awk_path (by decide) (skip awkL [0] 46) b c A w3 Sm.skip hg3 hs3)
   (fun q w3 hq hs3 => ⟨54, awk_e.1.1, awk_e.1.2, node_int b c q 53 54 A awkL ⟨#[49]⟩ 1 w3 (by rw [← awk_o.2.2.2]; exact hq.symm) awk_o.2.2.1 awk_o.1 awk_o.2.1 awk_o2 (by decide) one_parse hs3⟩) hg2 hs2
 have hgrp : ∀ w2, Fr (fun j => j = b) w1 w2 → Sc w2 b A c awkL 41 → Calls Tryz.prog 46 #[.agg #[.pointer (some ⟨b, 0, none⟩)], .int .i64 40] w2 (GrpAny awkG w2 b A c awkL 58 false 0) := fun w2 hf2 hs2 => by
  refine Calls.mono ?_ (fun e' w' (h : GrpPostG awkG w2 b A c awkL 58 e' w') => show (if false = true then _ else _) by rw [if_neg Bool.false_ne_true]; exact h)
  refine pgroup awkP ⟨#[120]⟩ ⟨#[]⟩ (intTerm ⟨#[49]⟩) rfl 40 (by decide) (by decide) b c 41 42 44 56 58 A awkL w2 awk_grp.1.1 awk_grp.1.2 awk_grp.2.1 (fun w3 hg3 hs3 => ?_) awk_e.2.1 (hg1.frB hs1.blk (by decide) hf2) hs2
  exact pitem awkP ⟨#[120]⟩ ⟨#[]⟩ (intTerm ⟨#[49]⟩) rfl (40 - 1) awkL 44 56 b c A w3 (by rw [awk_grp.2.2.1]; exact awk_grp.2.2.2) (fun w4 hg4 hs4 => by rw [awk_grp.2.2.1] at hs4; exact htri w4 hg4 hs4) hg3 hs3
 refine (query_scP awkG (glawp _ _ _ _) awkL lUO false ⟨#[121]⟩ ⟨#[]⟩ ⟨#[]⟩ 8 16 17 25 32 33 35 36 41 58 false 0 (awk_qc.text (by decide) (by decide) uo_good (fun b c A w h => selected_sc [121] b c _ _ A _ w (by decide) awk_y.1 awk_y.2.1 awk_y.name h)) awk_e.2.2.1 b c A w1 hgrp hs1).mono (fun e' w' h => ?_)
 have h := q_of_query h
 rw [awk_e.2.2.2.2] at h
 exact h

theorem beq_ba (a b : ByteArray) : (a == b) = decide (a = b) := by
 have h := beq_toListBytes a b
 by_cases e : a = b
 · subst e
   rw [h, decide_eq_true rfl]
   simp
 · rw [h, decide_eq_false e]
   cases hh : (a.toList == b.toList) with
   | false => rfl
   | true => exact absurd (bytes_inj.1 (eq_of_beq hh)) e

/-- A map's entries: keys that are strings. -/
def SKeys (es : List MapEntry) : Prop := ∀ e ∈ es, ∃ s, e.key = .string s
def findS : List MapEntry → ByteArray → Nat → Option (Nat × Value)
 | [], _, _ => none
 | e :: es, k, i => match e.key with
  | .string s => if k = s then some (i, e.val) else findS es k (i + 1)
  | _ => none
/-- What stands for a key. -/
def lookS (es : List MapEntry) (k : ByteArray) : Option Value := (findS es k 0).map (·.2)
theorem find_now (k : ByteArray) : ∀ (es : List MapEntry) (i : Nat), SKeys es → Instr.findNow .string (.string k) es i = some (findS es k i)
 | [], _, _ => rfl
 | e :: es, i, h => by
  obtain ⟨s, hs⟩ := h e (List.mem_cons_self ..)
  have ih := find_now k es (i + 1) (fun x hx => h x (List.mem_cons_of_mem _ hx))
  unfold Instr.findNow findS
  rw [hs]
  simp only [Instr.sameNow, beq_ba]
  by_cases hk : k = s
  · subst hk
    simp
  · rw [decide_eq_false hk, if_neg hk]
    exact ih
theorem findS_shift (k : ByteArray) : ∀ (es : List MapEntry) (i : Nat), findS es k (i + 1) = (findS es k i).map fun p => (p.1 + 1, p.2)
 | [], _ => rfl
 | e :: es, i => by
  unfold findS
  cases e.key with
  | string s =>
   simp only
   by_cases hk : k = s
   · rw [if_pos hk, if_pos hk]; rfl
   · rw [if_neg hk, if_neg hk]; exact findS_shift k es (i + 1)
  | _ => rfl
theorem findS_push (k x : ByteArray) (v : Value) (c : Nat) : ∀ (es : List MapEntry) (i : Nat), SKeys es → findS es k i = none → (findS (es ++ [{ key := .string k, val := v, born := c }]) x i).map (·.2) = if x = k then some v else (findS es x i).map (·.2)
 | [], i, _, _ => by
  show (findS [{ key := .string k, val := v, born := c }] x i).map (·.2) = _
  unfold findS
  simp only
  by_cases hx : x = k
  · rw [if_pos hx, if_pos hx]; rfl
  · rw [if_neg hx, if_neg hx]; rfl
 | e :: es, i, h, hn => by
  obtain ⟨s, hs⟩ := h e (List.mem_cons_self ..)
  have hsk : SKeys es := fun x hx => h x (List.mem_cons_of_mem _ hx)
  unfold findS at hn
  rw [hs] at hn
  simp only at hn
  by_cases hk : k = s
  · rw [if_pos hk] at hn; cases hn
  · rw [if_neg hk] at hn
    have ih := findS_push k x v c es (i + 1) hsk hn
    show (findS (e :: (es ++ [_])) x i).map (·.2) = _
    unfold findS
    rw [hs]
    simp only
    by_cases hx : x = s
    · rw [if_pos hx, if_pos hx, if_neg (fun e => hk (e.symm.trans hx))]
    · rw [if_neg hx, if_neg hx]
      exact ih
theorem findS_mod (k x : ByteArray) (v : Value) : ∀ (es : List MapEntry) (i j : Nat) (u : Value), SKeys es → findS es k i = some (i + j, u) → (findS (es.modify j fun e => { e with key := .string k, val := v }) x i).map (·.2) = if x = k then some v else (findS es x i).map (·.2)
 | [], i, j, u, _, hn => by cases hn
 | e :: es, i, j, u, h, hn => by
  obtain ⟨s, hs⟩ := h e (List.mem_cons_self ..)
  have hsk : SKeys es := fun x hx => h x (List.mem_cons_of_mem _ hx)
  unfold findS at hn
  rw [hs] at hn
  simp only at hn
  by_cases hk : k = s
  · rw [if_pos hk] at hn
    have hj : j = 0 := by
     have h2 := congrArg Prod.fst (Option.some.inj hn)
     simp only at h2
     omega
    subst hj hk
    show (findS ({ e with key := .string k, val := v } :: es) x i).map (·.2) = _
    unfold findS
    rw [hs]
    simp only
    by_cases hx : x = k
    · rw [if_pos hx, if_pos hx]; rfl
    · rw [if_neg hx, if_neg hx, if_neg hx]
  · rw [if_neg hk] at hn
    cases j with
    | zero =>
     have h2 := findS_shift k es i
     rw [hn] at h2
     cases h3 : findS es k i with
     | none => rw [h3] at h2; cases h2
     | some p =>
      rw [h3] at h2
      have h4 := congrArg Prod.fst (Option.some.inj h2)
      simp only at h4
      have h5 := findS_ge k es i p h3
      omega
    | succ j =>
     have ih := findS_mod k x v es (i + 1) j u hsk (by rw [hn]; rw [show i + 1 + j = i + (j + 1) by omega])
     show (findS (e :: es.modify j _) x i).map (·.2) = _
     unfold findS
     rw [hs]
     simp only
     by_cases hx : x = s
     · rw [if_pos hx, if_pos hx, if_neg (fun e => hk (e.symm.trans hx))]
     · rw [if_neg hx, if_neg hx]
       exact ih
where
 findS_ge (k : ByteArray) : ∀ (es : List MapEntry) (i : Nat) (p : Nat × Value), findS es k i = some p → i ≤ p.1
  | [], i, p, h => by cases h
  | e :: es, i, p, h => by
   unfold findS at h
   cases he : e.key with
   | string s =>
    rw [he] at h
    simp only at h
    by_cases hk : k = s
    · rw [if_pos hk] at h
      have := congrArg Prod.fst (Option.some.inj h)
      simp only at this
      omega
    · rw [if_neg hk] at h
      have := findS_ge k es (i + 1) p h
      omega
   | _ => rw [he] at h; cases h
theorem SKeys.push {es : List MapEntry} (h : SKeys es) (k : ByteArray) (v : Value) (c : Nat) : SKeys (es ++ [{ key := .string k, val := v, born := c }]) := by
 intro e he
 rcases List.mem_append.1 he with h1 | h1
 · exact h e h1
 · rw [List.mem_singleton] at h1
   subst h1
   exact ⟨k, rfl⟩
theorem SKeys.mod : ∀ {es : List MapEntry} (j : Nat) (k : ByteArray) (v : Value), SKeys es → SKeys (es.modify j fun e => { e with key := .string k, val := v })
 | [], j, k, v, _ => by
  intro e he
  cases j <;> cases he
 | x :: es, 0, k, v, h => by
  intro e he
  rcases List.mem_cons.1 (show e ∈ { x with key := .string k, val := v } :: es from he) with rfl | h1
  · exact ⟨k, rfl⟩
  · exact h e (List.mem_cons_of_mem _ h1)
 | x :: es, j + 1, k, v, h => by
  intro e he
  rcases List.mem_cons.1 (show e ∈ x :: es.modify j _ from he) with rfl | h1
  · exact h _ (List.mem_cons_self ..)
  · exact SKeys.mod j k v (fun y hy => h y (List.mem_cons_of_mem _ hy)) e h1
/-- Entries' stamps: each once. -/
def St (es : Array MapEntry) (clock : Nat) : Prop := (∀ (i : Nat) (e : MapEntry), es[i]? = some e → e.born < clock) ∧ ∀ (i j : Nat) (e e' : MapEntry), es[i]? = some e → es[j]? = some e' → e.born = e'.born → i = j
theorem St.push {es : Array MapEntry} {clock : Nat} (h : St es clock) (k v : Value) : St (es.push { key := k, val := v, born := clock }) (clock + 1) := by
 have hp : ∀ (i : Nat) (e : MapEntry), (es.push { key := k, val := v, born := clock })[i]? = some e → es[i]? = some e ∨ (i = es.size ∧ e.born = clock) := by
  intro i e he
  rw [Array.getElem?_push] at he
  split at he
  · rename_i hi
    injection he with he
    exact .inr ⟨hi, by rw [← he]⟩
  · exact .inl he
 have hlt : ∀ (i : Nat) (e : MapEntry), es[i]? = some e → i < es.size := fun i e he => (Array.getElem?_eq_some_iff.1 he).1
 refine ⟨fun i e he => ?_, fun i j e e' he he' hb => ?_⟩
 · rcases hp i e he with h1 | ⟨_, h1⟩
   · exact Nat.lt_succ_of_lt (h.1 i e h1)
   · omega
 · rcases hp i e he with h1 | ⟨h0, h1⟩ <;> rcases hp j e' he' with h2 | ⟨h3, h2⟩
   · exact h.2 i j e e' h1 h2 hb
   · have := h.1 i e h1; omega
   · have := h.1 j e' h2; omega
   · omega
theorem St.mod {es : Array MapEntry} {clock : Nat} (h : St es clock) (j : Nat) (f : MapEntry → MapEntry) (hf : ∀ e, (f e).born = e.born) : St (es.modify j f) clock := by
 have hp : ∀ (i : Nat) (e : MapEntry), (es.modify j f)[i]? = some e → ∃ e0, es[i]? = some e0 ∧ e.born = e0.born := by
  intro i e he
  rw [Array.getElem?_modify] at he
  split at he
  · obtain ⟨e0, h0, rfl⟩ := Option.map_eq_some_iff.1 he
    exact ⟨e0, h0, hf e0⟩
  · exact ⟨e, he, rfl⟩
 refine ⟨fun i e he => ?_, fun i j2 e e' he he' hb => ?_⟩
 · obtain ⟨e0, h0, h1⟩ := hp i e he
   rw [h1]
   exact h.1 i e0 h0
 · obtain ⟨e0, h0, h1⟩ := hp i e he
   obtain ⟨e2, h2, h3⟩ := hp j2 e' he'
   exact h.2 i j2 e0 e2 h0 h2 (by rw [← h1, ← h3, hb])
/-- A map of strings, told by what stands for each. -/
def SMap (w : World) (r : Nat) (f : ByteArray → Option Value) : Prop := ∃ (es : Array MapEntry) (clock : Nat), w.heap[r]? = some (.map es clock) ∧ SKeys es.toList ∧ (∀ k, lookS es.toList k = f k) ∧ St es clock
theorem SMap.lt {w : World} {r : Nat} {f : ByteArray → Option Value} (h : SMap w r f) : r < w.heap.size := by
 obtain ⟨es, clock, hg, _⟩ := h
 exact (Array.getElem?_eq_some_iff.1 hg).1
theorem SMap.fr {S : Nat → Prop} {w w' : World} {r : Nat} {f : ByteArray → Option Value} (h : SMap w r f) (hf : Fr S w w') (hn : ¬ S r) : SMap w' r f := by
 have hl := h.lt
 obtain ⟨es, clock, hg, he⟩ := h
 exact ⟨es, clock, (hf.block r hl hn).trans hg, he⟩
theorem SMap.new (w : World) : SMap (w.alloc (.map #[] 0)) w.heap.size (fun _ => none) :=
 ⟨#[], 0, heap_alloc_new w _, (fun e he => by cases he), fun _ => rfl, fun i e he => by simp at he, fun i j e e' he => by simp at he⟩
theorem SMap.ne_blk {w : World} {r g : Nat} {t : TypeId} {cs : Array Value} {f : ByteArray → Option Value} (h : SMap w r f) (hb : Blk w g t cs) : r ≠ g := by
 rintro rfl
 obtain ⟨es, clock, hg, _⟩ := h
 have hb2 : w.heap[r]? = some (.cells cs t (0, 0)) := hb
 rw [hg] at hb2
 cases hb2
theorem key_str (e : Bool) (k : ByteArray) (w : World) : (Instr.checkKey e 10000 9 (.string k)).run Tryz.prog w = .ok () w := by kernel_rfl
theorem findKey_s (k : ByteArray) (w : World) (es : List MapEntry) (h : SKeys es) : (Instr.findKey 9 (.string k) es).run Tryz.prog w = .ok (findS es k 0) w := by
 simp only [Instr.findKey, Sem.run_bind, run_underlying Tryz.underlying9, Result.andThen_ok, find_now k es 0 h]
 rfl
theorem run_lookup_s {w : World} {r : Nat} {f : ByteArray → Option Value} (h : SMap w r f) (T e : TypeId) (hu : Tryz.prog.underlying T = some (.map 9 e)) (z : Value) (hz : (zeroValue e).run Tryz.prog w = .ok z w) (k : ByteArray) :
    (Instr.lookup T (.map (some r)) (.string k) false).run Tryz.prog w = .ok ((f k).getD z) w := by
 obtain ⟨es, clock, hg, hk, hf, _⟩ := h
 have hget : (getObj r).run Tryz.prog w = .ok (.map es clock) w := by simp [getObj, Sem.run, hg]
 have h1 := hf k
 unfold lookS at h1
 simp only [Instr.lookup, Sem.run_bind, run_underlying hu, Result.andThen_ok, hget, Sem.run_pure, key_str, findKey_s k w es.toList hk]
 rw [← h1]
 cases findS es.toList k 0 with
 | none => simp [hz]
 | some p => simp
theorem findS_key2 (k : ByteArray) : ∀ (es : List MapEntry) (i j : Nat) (u : Value), SKeys es → findS es k i = some (j, u) → i ≤ j ∧ ∃ e0, es[j - i]? = some e0 ∧ e0.key = .string k
 | [], i, j, u, _, h => by cases h
 | e :: es, i, j, u, hs, h => by
  unfold findS at h
  cases he : e.key with
  | string s =>
   rw [he] at h
   simp only at h
   by_cases hk : k = s
   · rw [if_pos hk] at h
     have := congrArg Prod.fst (Option.some.inj h)
     simp only at this
     subst this hk
     exact ⟨Nat.le_refl _, e, by simp, he⟩
   · rw [if_neg hk] at h
     obtain ⟨h1, e0, h2, h3⟩ := findS_key2 k es (i + 1) j u (fun x hx => hs x (List.mem_cons_of_mem _ hx)) h
     refine ⟨by omega, e0, ?_, h3⟩
     rw [show j - i = (j - (i + 1)) + 1 by omega, List.getElem?_cons_succ]
     exact h2
  | _ => rw [he] at h; cases h
theorem findS_key (k : ByteArray) (l : List MapEntry) (j : Nat) (u : Value) (hs : SKeys l) (h : findS l k 0 = some (j, u)) (es : Array MapEntry) (hl : es.toList = l) : ∃ e0, es[j]? = some e0 ∧ e0.key = .string k := by
 obtain ⟨_, e0, h2, h3⟩ := findS_key2 k l 0 j u hs h
 refine ⟨e0, ?_, h3⟩
 rw [Nat.sub_zero, ← hl] at h2
 simpa using h2

theorem run_mapUpdate_s {w : World} {r : Nat} {f : ByteArray → Option Value} (h : SMap w r f) (T e : TypeId) (hu : Tryz.prog.underlying T = some (.map 9 e)) (k : ByteArray) (v : Value) :
    ∃ w', (Instr.mapUpdate T (.map (some r)) (.string k) v).run Tryz.prog w = .ok () w' ∧ SMap w' r (fun x => if x = k then some v else f x) ∧ Fr (fun j => j = r) w w' := by
 have hlt := h.lt
 obtain ⟨es, clock, hg, hk, hf, hst0⟩ := h
 have hget : (getObj r).run Tryz.prog w = .ok (.map es clock) w := by simp [getObj, Sem.run, hg]
 have hg2 : w.heap[r] = Obj.map es clock := by
  rw [Array.getElem?_eq_getElem hlt] at hg
  exact Option.some.inj hg
 have hfr : ∀ o, Fr (fun j => j = r) w (World.mapSet w r o) := fun o => ⟨rfl, rfl, rfl, by simp [World.mapSet], fun k hk hne => by
  show (w.heap.setIfInBounds r _)[k]? = _
  rw [Array.getElem?_setIfInBounds_ne (fun e => hne e.symm)]⟩
 cases h1 : findS es.toList k 0 with
 | none =>
  refine ⟨World.mapSet w r (.map (es.push { key := .string k, val := v, born := clock }) (clock + 1)), ?_, ⟨es.push { key := .string k, val := v, born := clock }, clock + 1, by simp [World.mapSet, hlt], ?_, fun x => ?_, hst0.push _ _⟩, hfr _⟩
  · simp only [Instr.mapUpdate, Sem.run_bind, run_underlying hu, Result.andThen_ok, hget, key_str, findKey_s k w es.toList hk, h1]
    simp [setObj, Sem.run, hlt, World.mapSet, hg2]
  · rw [Array.toList_push]; exact hk.push k v clock
  · unfold lookS
    rw [Array.toList_push, findS_push k x v clock es.toList 0 hk h1]
    have h2 := hf x
    unfold lookS at h2
    rw [h2]
 | some p =>
  obtain ⟨j, u⟩ := p
  have hj : ∃ e0, es[j]? = some e0 ∧ e0.key = .string k := findS_key k es.toList j u hk h1 es rfl
  obtain ⟨e0, he0, hek⟩ := hj
  have hst : (Instr.keyThatStays (.string k) (.string k)).run Tryz.prog w = .ok (.string k) w := by
   have : Instr.sameBits 10000 (.string k) (.string k) = true := by
    show (k == k) = true
    rw [beq_ba]
    simp
   simp [Instr.keyThatStays, this]
  refine ⟨World.mapSet w r (.map (es.modify j fun e => { e with key := .string k, val := v }) clock), ?_, ⟨es.modify j fun e => { e with key := .string k, val := v }, clock, by simp [World.mapSet, hlt], ?_, fun x => ?_, hst0.mod _ _ (fun _ => rfl)⟩, hfr _⟩
  · simp only [Instr.mapUpdate, Sem.run_bind, run_underlying hu, Result.andThen_ok, hget, key_str, findKey_s k w es.toList hk, h1, he0, Option.map_some, Option.getD_some, hek, hst]
    simp [setObj, Sem.run, hlt, World.mapSet, hg2]
  · rw [Array.toList_modify]; exact SKeys.mod j k v hk
  · unfold lookS
    rw [Array.toList_modify, findS_mod k x v es.toList 0 j u hk (by rw [h1, Nat.zero_add])]
    have h2 := hf x
    unfold lookS at h2
    rw [h2]

theorem idx203_nil (v : Value) (w : World) : Calls Tryz.prog 203 #[.slice none 0 0, v] w fun e w' => e = .returned (.int .i64 (-1)) ∧ w = w' := by
 go_enter Tryz.func203, Tryz.ntmps203
 go_wp2_with fail
 go_loopg [8] (0) (fun gk a wr => a = .int .i64 0 ∧ w = wr)
 case atStart => exact ⟨rfl, rfl⟩
 case round =>
  obtain ⟨rfl, rfl⟩ := hrel
  go_wp2_with fail
  go_ret
  exact ⟨rfl, rfl⟩
theorem has186_nil (v : Value) (w : World) : Calls Tryz.prog 186 #[.slice none 0 0, v] w fun e w' => e = .returned (.bool false) ∧ w = w' := by
 have HI := Lib.hid (idx203_nil v w)
 go_enter Tryz.func186, Tryz.ntmps186
 go_wp2_with fail
 refine HI.out.mono ?_
 rintro e w1 ⟨rfl, rfl⟩
 go_wp2_with fail
 go_ret
 exact ⟨rfl, rfl⟩
abbrev N76 : Array Value := #[.int .i64 0, .int .i64 0, .slice none 0 0]
theorem ndeep_ok (w : World) : Calls Tryz.prog 165 #[.agg N76, .int .i64 40] w (IsB true w) := by
 have hf : Fr (fun _ => False) w ((w.alloc (.cells N76 76)).alloc (.cells #[.int .i64 40] 3)) := ((Fr.refl _ _).alloc _).alloc _
 have HF := Lib.hid hf
 have HH := Lib.hid (fun v w1 => has186_nil v w1)
 clear hf
 go_enter Tryz.func165, Tryz.ntmps165
 go_wp2_with fail
 refine (HH.out _ _).mono ?_
 rintro e w1 ⟨rfl, rfl⟩
 go_wp2_with fail
 go_ret
 exact IsB.mk HF.out
theorem nsize_ok (w : World) : Calls Tryz.prog 166 #[.agg N76] w fun e w' => e = .returned (.int .i64 1) ∧ Fr (fun _ => False) w w' := by
 have hf : Fr (fun _ => False) w (w.alloc (.cells N76 76)) := (Fr.refl _ _).alloc _
 have HF := Lib.hid hf
 clear hf
 go_enter Tryz.func166, Tryz.ntmps166
 go_wp2_with fail
 generalize w.alloc (.cells N76 76) = w1 at *
 go_loopg [3, 9] (0) (fun gk b a wr => b = .int .i64 1 ∧ a = .int .i64 0 ∧ w1 = wr)
 case atStart => exact ⟨rfl, rfl, rfl⟩
 case round =>
  obtain ⟨rfl, rfl, rfl⟩ := hrel
  go_wp2_with fail
  go_ret
  exact ⟨rfl, HF.out⟩
theorem nform_ok (w : World) : Calls Tryz.prog 167 #[.agg N76] w (IsB true w) := by
 have hf : Fr (fun _ => False) w (w.alloc (.cells N76 76)) := (Fr.refl _ _).alloc _
 have HF := Lib.hid hf
 clear hf
 go_enter Tryz.func167, Tryz.ntmps167
 go_wp2_with fail
 go_ret
 exact IsB.mk HF.out
theorem ncheck_ok (w : World) : Calls Tryz.prog 140 #[.agg N76] w fun e w' => e = .returned (.int .i64 0) ∧ Fr (fun _ => False) w w' := by
 have hf : Fr (fun _ => False) w (w.alloc (.cells N76 76)) := (Fr.refl _ _).alloc _
 have HF := Lib.hid hf
 have HB := Lib.hid (Blk.new w 76 N76)
 have HD := Lib.hid (fun w1 => ndeep_ok w1)
 have HS := Lib.hid (fun w1 => nsize_ok w1)
 have HM := Lib.hid (fun w1 => nform_ok w1)
 clear hf
 go_enter Tryz.func140, Tryz.ntmps140
 go_wp2_with fail
 refine (HD.out _).mono ?_
 generalize w.alloc (.cells N76 76) = w0 at *
 rintro e w1 ⟨rfl, hf1⟩
 have HF1 := Lib.hid (HF.out.trans' hf1)
 have HB1 := Lib.hid (HB.out.fr hf1 (fun h => h))
 have c0 : w1.cell? ⟨w.heap.size, 0, none⟩ = some (.int .i64 0) := HB1.out.cell 0
 have c1 : w1.cell? ⟨w.heap.size, 1, none⟩ = some (.int .i64 0) := HB1.out.cell 1
 have c2 : w1.cell? ⟨w.heap.size, 2, none⟩ = some (.slice none 0 0) := HB1.out.cell 2
 clear hf1
 go_wp2_with fail
 refine (HS.out _).mono ?_
 rintro e w2 ⟨rfl, hf2⟩
 have HF2 := Lib.hid (HF1.out.trans' hf2)
 have HB2 := Lib.hid (HB1.out.fr hf2 (fun h => h))
 have d0 : w2.cell? ⟨w.heap.size, 0, none⟩ = some (.int .i64 0) := HB2.out.cell 0
 have d1 : w2.cell? ⟨w.heap.size, 1, none⟩ = some (.int .i64 0) := HB2.out.cell 1
 have d2 : w2.cell? ⟨w.heap.size, 2, none⟩ = some (.slice none 0 0) := HB2.out.cell 2
 clear hf2 c0 c1 c2
 go_wp2_with fail
 refine (HM.out _).mono ?_
 rintro e w3 ⟨rfl, hf3⟩
 have HF3 := Lib.hid (HF2.out.trans' hf3)
 clear hf3 d0 d1 d2
 go_wp2_with fail
 go_ret
 exact ⟨rfl, HF3.out⟩
/-- The example's triple, as an item. -/
abbrev I68 (o3 : Value) : Array Value := #[.int .i64 0, .string ⟨#[120]⟩, .nilIface, .string ⟨#[]⟩, .nilIface, .string ⟨#[]⟩, o3, .int .i64 0, .string ⟨#[117, 58, 112]⟩, .slice none 0 0, .string ⟨#[]⟩, .string ⟨#[]⟩, .nilIface, .slice none 0 0, .string ⟨#[]⟩, .string ⟨#[]⟩, .slice none 0 0]
set_option maxRecDepth 100000 in
set_option maxHeartbeats 8000000 in
theorem ctriple_ok (o3 : Value) (w : World) : Calls Tryz.prog 109 #[.agg (I68 o3)] w fun e w' => e = .returned (.int .i64 0) ∧ Fr (fun _ => False) w w' := by
 have hf : Fr (fun _ => False) w (w.alloc (.cells (I68 o3) 68)) := (Fr.refl _ _).alloc _
 have HF := Lib.hid hf
 have HB := Blk.new w 68 (I68 o3)
 have b2 : (w.alloc (.cells (I68 o3) 68)).cell? ⟨w.heap.size, 2, none⟩ = some .nilIface := HB.cell 2
 have b3 : (w.alloc (.cells (I68 o3) 68)).cell? ⟨w.heap.size, 3, none⟩ = some (.string ⟨#[]⟩) := HB.cell 3
 have b7 : (w.alloc (.cells (I68 o3) 68)).cell? ⟨w.heap.size, 7, none⟩ = some (.int .i64 0) := HB.cell 7
 have b8 : (w.alloc (.cells (I68 o3) 68)).cell? ⟨w.heap.size, 8, none⟩ = some (.string ⟨#[117, 58, 112]⟩) := HB.cell 8
 have b9 : (w.alloc (.cells (I68 o3) 68)).cell? ⟨w.heap.size, 9, none⟩ = some (.slice none 0 0) := HB.cell 9
 have HN := Lib.hid (fun w1 => number_leaf (fun _ => 0) 141 enter141 (fun i w => zero141 i w) 0 (.inl rfl) ⟨#[117, 58, 112]⟩ w1)
 have HC := Lib.hid (fun w1 => ncheck_ok w1)
 unfold NPost at HN
 clear hf HB
 go_enter Tryz.func109, Tryz.ntmps109
 go_wp2_with fail
 refine (HN.out _).mono ?_
 generalize w.alloc (.cells (I68 o3) 68) = w0 at *
 rintro e w1 ⟨k5, N5, A5, n5, c5, rfl, hna, hf1⟩
 cases hna
 have HF1 := Lib.hid (HF.out.trans' hf1)
 clear hf1 b2 b3 b7 b8 b9
 go_wp2_with fail
 refine (HC.out _).mono ?_
 rintro e w2 ⟨rfl, hf2⟩
 have HF2 := Lib.hid (HF1.out.trans' hf2)
 clear hf2
 go_wp2_with fail
 go_ret
 exact ⟨rfl, HF2.out⟩

/-- A map's keys, one put in. -/
def putK (f : ByteArray → Option Value) (k : ByteArray) : ByteArray → Option Value := fun x => if x = k then some (.bool true) else f x
theorem zero4 (w : World) : (zeroValue 4).run Tryz.prog w = .ok (.bool false) w := by kernel_rfl
theorem mk134 (w : World) : (Instr.makeMap 134 none).run Tryz.prog w = .ok (.map (some w.heap.size)) (w.alloc (.map #[] 0)) := rfl
theorem unless_ok (b : Bool) (k : Int) (w : World) : Calls Tryz.prog 54 #[.bool b, .int .i64 k] w fun e w' => e = .returned (.int .i64 (if b = true then 0 else k)) ∧ w = w' := by
 cases b with
 | true =>
  go_enter Tryz.func54, Tryz.ntmps54
  go_wp2_with fail
  go_ret
  exact ⟨rfl, rfl⟩
 | false =>
  go_enter Tryz.func54, Tryz.ntmps54
  go_wp2_with fail
  go_ret
  exact ⟨rfl, rfl⟩
/-- The first error of two, the second one's. -/
theorem first_ok (k : Int) (hk : ¬ k = 0) (g : Nat) (w : World) (h : Blk w g 53 #[.int .i64 0, .int .i64 k]) : Calls Tryz.prog 53 #[.slice (some ⟨g, 0, none⟩) 2 2] w fun e w' => e = .returned (.int .i64 k) ∧ w = w' := by
 have c0 : w.cell? ⟨g, 0, none⟩ = some (.int .i64 0) := h.cell 0
 have c1 : w.cell? ⟨g, 1, none⟩ = some (.int .i64 k) := h.cell 1
 have hk0 : (k == 0) = false := by simpa using hk
 clear h
 go_enter Tryz.func53, Tryz.ntmps53
 go_wp2_with fail
 go_loopg [7] (2) (fun gk a wr => w = wr ∧ ((a = .int .i64 0 ∧ gk = 2) ∨ (a = .int .i64 1 ∧ gk = 1)))
 case atStart => exact ⟨rfl, .inl ⟨rfl, rfl⟩⟩
 case round =>
  obtain ⟨rfl, ⟨rfl, rfl⟩ | ⟨rfl, rfl⟩⟩ := hrel
  · go_wp2_with fail
    go_roundg (1)
    case measure => decide
    exact ⟨rfl, .inr ⟨rfl, rfl⟩⟩
  · go_wp2_with fail
    go_ret
    exact ⟨rfl, rfl⟩
theorem nadd_ok (k : ByteArray) (r g : Nat) (f : ByteArray → Option Value) (w : World) (hm : SMap w r f) (h : Blk w g 9 #[.string k]) : Calls Tryz.prog 57 #[.map (some r), .slice (some ⟨g, 0, none⟩) 1 1] w fun e w' => e = .returned (.tuple #[]) ∧ SMap w' r (putK f k) ∧ Fr (fun j => j = r) w w' := by
 have c0 : w.cell? ⟨g, 0, none⟩ = some (.string k) := h.cell 0
 obtain ⟨w2, hup, hm2, hf2⟩ := run_mapUpdate_s hm 134 4 Tryz.underlying134 k (.bool true)
 have HM2 := Lib.hid hm2
 have HF2 := Lib.hid hf2
 clear h hm hm2 hf2
 go_enter Tryz.func57, Tryz.ntmps57
 go_wp2_with fail
 go_loopg [8] (1) (fun gk a wr => (a = .int .i64 0 ∧ gk = 1 ∧ w = wr) ∨ (a = .int .i64 1 ∧ w2 = wr))
 case atStart => exact .inl ⟨rfl, rfl, rfl⟩
 case round =>
  obtain ⟨rfl, rfl, rfl⟩ | ⟨rfl, rfl⟩ := hrel
  · go_wp2_with fail
    go_roundg (0)
    case measure => decide
    exact .inr ⟨rfl, rfl⟩
  · go_wp2_with fail
    go_end0
    exact ⟨rfl, HM2.out, HF2.out⟩
theorem nnode_ok (xs : Value) (r g : Nat) (f : ByteArray → Option Value) (w : World) (hm : SMap w r f) (h : Blk w g 59 #[.string ⟨#[120]⟩, .nilIface, .string ⟨#[]⟩, .nilIface, .string ⟨#[]⟩, .iface 254 xs]) : Calls Tryz.prog 112 #[.map (some r), .slice (some ⟨g, 0, none⟩) 3 3] w fun e w' => e = .returned (.tuple #[]) ∧ SMap w' r (putK f ⟨#[120]⟩) ∧ Fr (fun j => j = r) w w' := by
 have hne := hm.ne_blk h
 have HM := Lib.hid hm
 have HB := Lib.hid h
 have hrl := hm.lt
 clear h hm
 go_enter Tryz.func112, Tryz.ntmps112
 go_wp2_with fail
 go_loopg [8] (3) (fun gk a wr => ∃ j : Nat, a = .int .i64 (j : Int) ∧ gk + j = 3 ∧ SMap wr r (if j = 0 then f else putK f ⟨#[120]⟩) ∧ Blk wr g 59 #[.string ⟨#[120]⟩, .nilIface, .string ⟨#[]⟩, .nilIface, .string ⟨#[]⟩, .iface 254 xs] ∧ Fr (fun j => j = r) w wr)
 case atStart => exact ⟨0, rfl, rfl, HM.out, HB.out, Fr.refl _ _⟩
 case round =>
  clear HM HB
  obtain ⟨j, rfl, hgk, hm, hb, hf⟩ := hrel
  have HF := Lib.hid hf
  have HB := Lib.hid hb
  have hwl := hf.size
  clear hf
  obtain rfl | rfl | rfl | rfl : j = 0 ∨ j = 1 ∨ j = 2 ∨ j = 3 := by omega
  · have HM := Lib.hid (show SMap wr r f from hm)
    have c0 : wr.cell? ⟨g, 0, none⟩ = some (.string ⟨#[120]⟩) := hb.cell 0
    have c1 : wr.cell? ⟨g, 1, none⟩ = some .nilIface := hb.cell 1
    have hfa : Fr (fun _ => False) wr ((wr.alloc (.cells #[.string ⟨#[120]⟩, .nilIface] 59)).alloc (.cells #[.string ⟨#[120]⟩] 9)) := ((Fr.refl _ _).alloc _).alloc _
    have HMA := Lib.hid (HM.out.fr hfa (fun h => h))
    have hy := Blk.new (wr.alloc (.cells #[.string ⟨#[120]⟩, .nilIface] 59)) 9 #[.string ⟨#[120]⟩]
    rw [show (wr.alloc (.cells #[.string ⟨#[120]⟩, .nilIface] 59)).heap.size = wr.heap.size + 1 by simp] at hy
    have HC := Lib.hid (nadd_ok ⟨#[120]⟩ r (wr.heap.size + 1) f _ HMA.out hy)
    have HBA := Lib.hid (HB.out.fr hfa (fun h => h))
    have HFA := Lib.hid (HF.out.andF hfa)
    clear hm hb hfa hy HM
    go_wp2_with fail
    refine HC.out.mono ?_
    rintro e w2 ⟨rfl, hm2, hf2⟩
    have HM2 := Lib.hid hm2
    have HB2 := Lib.hid (HBA.out.fr hf2 (fun e => hne e.symm))
    have HF2 := Lib.hid (HFA.out.trans' hf2)
    clear hm2 hf2
    go_wp2_with fail
    go_roundg (2)
    case measure => omega
    exact ⟨1, rfl, rfl, HM2.out, HB2.out, HF2.out⟩
  · have HM := Lib.hid (show SMap wr r (putK f ⟨#[120]⟩) from hm)
    have c0 : wr.cell? ⟨g, 2, none⟩ = some (.string ⟨#[]⟩) := hb.cell 2
    have c1 : wr.cell? ⟨g, 3, none⟩ = some .nilIface := hb.cell 3
    have hfa : Fr (fun _ => False) wr (wr.alloc (.cells #[.string ⟨#[]⟩, .nilIface] 59)) := (Fr.refl _ _).alloc _
    have HMA := Lib.hid (HM.out.fr hfa (fun h => h))
    have HBA := Lib.hid (HB.out.fr hfa (fun h => h))
    have HFA := Lib.hid (HF.out.andF hfa)
    clear hm hb hfa HM
    go_wp2_with fail
    go_roundg (1)
    case measure => omega
    exact ⟨2, rfl, rfl, HMA.out, HBA.out, HFA.out⟩
  · have HM := Lib.hid (show SMap wr r (putK f ⟨#[120]⟩) from hm)
    have c0 : wr.cell? ⟨g, 4, none⟩ = some (.string ⟨#[]⟩) := hb.cell 4
    have c1 : wr.cell? ⟨g, 5, none⟩ = some (.iface 254 xs) := hb.cell 5
    have hfa : Fr (fun _ => False) wr (wr.alloc (.cells #[.string ⟨#[]⟩, .iface 254 xs] 59)) := (Fr.refl _ _).alloc _
    have HMA := Lib.hid (HM.out.fr hfa (fun h => h))
    have HBA := Lib.hid (HB.out.fr hfa (fun h => h))
    have HFA := Lib.hid (HF.out.andF hfa)
    clear hm hb hfa HM
    go_wp2_with fail
    go_roundg (0)
    case measure => omega
    exact ⟨3, rfl, rfl, HMA.out, HBA.out, HFA.out⟩
  · have HM := Lib.hid (show SMap wr r (putK f ⟨#[120]⟩) from hm)
    clear hm hb
    go_wp2_with fail
    go_end0
    exact ⟨rfl, HM.out, HF.out⟩

/-- What the walk knows of the example's group: its one item, in memory. -/
abbrev J68 (xs : Value) : Array Value := I68 (.iface 254 xs)
set_option maxRecDepth 100000 in
set_option maxHeartbeats 8000000 in
theorem nitem_ok (xs : Value) (r : Nat) (f : ByteArray → Option Value) (w : World) (hm : SMap w r f) : Calls Tryz.prog 85 #[.map (some r), .agg (J68 xs)] w fun e w' => e = .returned (.tuple #[]) ∧ SMap w' r (putK f ⟨#[120]⟩) ∧ Fr (fun j => j = r) w w' := by
 have hf : Fr (fun _ => False) w ((w.alloc (.cells (J68 xs) 68)).alloc (.cells #[.string ⟨#[120]⟩, .nilIface, .string ⟨#[]⟩, .nilIface, .string ⟨#[]⟩, .iface 254 xs] 59)) := ((Fr.refl _ _).alloc _).alloc _
 have hrl := hm.lt
 have HB := Blk.new w 68 (J68 xs)
 have hbb := HB.alloc (.cells #[.string ⟨#[120]⟩, .nilIface, .string ⟨#[]⟩, .nilIface, .string ⟨#[]⟩, .iface 254 xs] 59)
 have HBB := Lib.hid hbb
 have b0 : (w.alloc (.cells (J68 xs) 68)).cell? ⟨w.heap.size, 0, none⟩ = some (.int .i64 0) := HB.cell 0
 have b1 : (w.alloc (.cells (J68 xs) 68)).cell? ⟨w.heap.size, 1, none⟩ = some (.string ⟨#[120]⟩) := HB.cell 1
 have b2 : (w.alloc (.cells (J68 xs) 68)).cell? ⟨w.heap.size, 2, none⟩ = some .nilIface := HB.cell 2
 have b3 : (w.alloc (.cells (J68 xs) 68)).cell? ⟨w.heap.size, 3, none⟩ = some (.string ⟨#[]⟩) := HB.cell 3
 have b4 : (w.alloc (.cells (J68 xs) 68)).cell? ⟨w.heap.size, 4, none⟩ = some .nilIface := HB.cell 4
 have b5 : (w.alloc (.cells (J68 xs) 68)).cell? ⟨w.heap.size, 5, none⟩ = some (.string ⟨#[]⟩) := HB.cell 5
 have b6 : (w.alloc (.cells (J68 xs) 68)).cell? ⟨w.heap.size, 6, none⟩ = some (.iface 254 xs) := HB.cell 6
 have hy := Blk.new (w.alloc (.cells (J68 xs) 68)) 59 #[.string ⟨#[120]⟩, .nilIface, .string ⟨#[]⟩, .nilIface, .string ⟨#[]⟩, .iface 254 xs]
 rw [show (w.alloc (.cells (J68 xs) 68)).heap.size = w.heap.size + 1 by simp] at hy
 have HC := Lib.hid (nnode_ok xs r (w.heap.size + 1) f _ (hm.fr hf (fun h => h)) hy)
 have HF := Lib.hid hf
 clear hf hm HB hbb hy
 go_enter Tryz.func85, Tryz.ntmps85
 go_wp2_with fail
 refine HC.out.mono ?_
 generalize (w.alloc (.cells (J68 xs) 68)) = w0 at *
 rintro e w2 ⟨rfl, hm2, hf2⟩
 have HM2 := Lib.hid hm2
 have c8 : w2.cell? ⟨w.heap.size, 16, none⟩ = some (.slice none 0 0) := (HBB.out.fr hf2 (fun e => by omega)).cell 16
 have HF2 := Lib.hid ((HF.out.mono (T := fun j => j = r) (fun _ _ h => h.elim)).trans' hf2)
 clear hm2 hf2 b0 b1 b2 b3 b4 b5 b6
 go_wp2_with fail
 go_loopg [29] (0) (fun gk a wr => a = .int .i64 0 ∧ w2 = wr)
 case atStart => exact ⟨rfl, rfl⟩
 case round =>
  obtain ⟨rfl, rfl⟩ := hrel
  go_wp2_with fail
  go_end0
  exact ⟨rfl, HM2.out, HF2.out⟩

theorem row_cells {w : World} {B e m n c g : Nat} {L : List Value} (h : w.ownsRow B e m (.slice (some ⟨g, 0, none⟩) n c) n L) : w.rangeAt g 0 L := by
 intro i v hv
 rcases h.2 with ⟨h0, _⟩ | ⟨gg, cap, cur, h0, _, hh, _, _, _, ht⟩
 · cases h0
 · injection h0 with h0 _ _
   injection h0 with h0
   injection h0 with h0
   subst h0
   rw [Nat.zero_add, cell_of_row w g i cur e (0, 0) hh, ← Array.getElem?_toList]
   have hf : L[i]? = some v := hv
   rw [← ht, List.getElem?_take] at hf
   split at hf
   · exact hf
   · cases hf
set_option maxRecDepth 100000 in
set_option maxHeartbeats 8000000 in
theorem ngroup_ok (xs : Value) (r B c g : Nat) (f : ByteArray → Option Value) (w : World) (hm : SMap w r f) (hr : w.ownsRow B 68 17 (.slice (some ⟨g, 0, none⟩) 1 c) 1 (J68 xs).toList) : Calls Tryz.prog 51 #[.map (some r), .agg #[.slice (some ⟨g, 0, none⟩) 1 c]] w fun e w' => e = .returned (.tuple #[]) ∧ SMap w' r (putK f ⟨#[120]⟩) ∧ Fr (fun j => j = r) w w' := by
 have hf : Fr (fun _ => False) w (w.alloc (.cells #[.slice (some ⟨g, 0, none⟩) 1 c] 50)) := (Fr.refl _ _).alloc _
 have hcap := row_cap hr
 have HM := Lib.hid (hm.fr hf (fun h => h))
 have HRA := Lib.hid (row_cells (ownsRow_fr hr hf (fun _ _ h => h)))
 have HF := Lib.hid hf
 have HC := Lib.hid (fun w1 hm1 => nitem_ok xs r f w1 hm1)
 have hrl := hm.lt
 clear hf hm hr
 go_enter Tryz.func51, Tryz.ntmps51
 go_wp2_with fail
 generalize w.alloc (.cells #[.slice (some ⟨g, 0, none⟩) 1 c] 50) = w0 at *
 go_loopg [9] (1) (fun gk a wr => (a = .int .i64 0 ∧ gk = 1 ∧ w0 = wr) ∨ (a = .int .i64 1 ∧ SMap wr r (putK f ⟨#[120]⟩) ∧ Fr (fun j => j = r) w wr))
 case atStart => exact .inl ⟨rfl, rfl, rfl⟩
 case round =>
  obtain ⟨rfl, rfl, rfl⟩ | ⟨rfl, hm, hf⟩ := hrel
  · have hfa : Fr (fun _ => False) w0 (w0.alloc (.cells (J68 xs) 68)) := (Fr.refl _ _).alloc _
    have HMA := Lib.hid (HM.out.fr hfa (fun h => h))
    have HFA := Lib.hid (HF.out.andF hfa)
    have HBA := Lib.hid (Blk.new w0 68 (J68 xs))
    clear hfa
    go_wp2_with (first | ((with_reducible change wpList _ _ _ (Oper.mk _ (.load 68 (.tmp 11)) _ _ _ _ :: _) _ _); refine wpList_load_mid rfl 68 _ rfl _ _ rfl _ _ HRA.out Tryz.underlying68 rfl inf68 ?_) | ((with_reducible change wpList _ _ _ (Oper.mk _ (.load 68 _) _ _ _ _ :: _) _ _); refine wpList_load_blk rfl 68 _ rfl _ rfl 68 (J68 xs) HBA.out _ Tryz.underlying68 rfl inf68 ?_))
    refine (HC.out _ HMA.out).mono ?_
    rintro e w2 ⟨rfl, hm2, hf2⟩
    have HM2 := Lib.hid hm2
    have HF2 := Lib.hid ((HFA.out.mono (T := fun j => j = r) (fun _ _ h => h.elim)).trans' hf2)
    clear hm2 hf2
    go_wp2_with fail
    go_roundg (0)
    case measure => decide
    exact .inr ⟨rfl, HM2.out, HF2.out⟩
  · have HM2 := Lib.hid hm
    have HF2 := Lib.hid hf
    clear hm hf
    go_wp2_with fail
    go_end0
    exact ⟨rfl, HM2.out, HF2.out⟩

set_option maxRecDepth 100000 in
set_option maxHeartbeats 8000000 in
theorem citem_ok (xs m1 m2 m3 : Value) (b : Bool) (hm3 : m3.oneCell' = true) (w : World) (r0 : Nat) : Calls Tryz.prog 84 #[.agg #[.map (some r0), .bool b], .agg (J68 xs), m1, m2] w fun e w' => e = .returned (.int .i64 0) ∧ Fr (fun _ => False) w w' := by
 have hf : Fr (fun _ => False) w ((w.alloc (.cells #[.map (some r0), .bool b] 138)).alloc (.cells (J68 xs) 68)) := ((Fr.refl _ _).alloc _).alloc _
 have hy := Blk.new (w.alloc (.cells #[.map (some r0), .bool b] 138)) 68 (J68 xs)
 rw [show (w.alloc (.cells #[.map (some r0), .bool b] 138)).heap.size = w.heap.size + 1 by simp] at hy
 have b0 : ((w.alloc (.cells #[.map (some r0), .bool b] 138)).alloc (.cells (J68 xs) 68)).cell? ⟨w.heap.size + 1, 0, none⟩ = some (.int .i64 0) := hy.cell 0
 have HY := Lib.hid hy
 have HF := Lib.hid hf
 have HC := Lib.hid (fun w1 => ctriple_ok (.iface 254 xs) w1)
 clear hf hy hm3
 go_enter Tryz.func84, Tryz.ntmps84
 go_wp2_with ((with_reducible change wpList _ _ _ (Oper.mk _ (.load 68 _) _ _ _ _ :: _) _ _); refine wpList_load_blk rfl 68 _ rfl _ rfl 68 (J68 xs) HY.out _ Tryz.underlying68 rfl inf68 ?_)
 refine (HC.out _).mono ?_
 rintro e w1 ⟨rfl, hf1⟩
 have HF1 := Lib.hid (HF.out.trans' hf1)
 clear hf1 b0
 go_wp2_with fail
 go_ret
 exact ⟨rfl, HF1.out⟩
theorem src_ok (w : World) : Calls Tryz.prog 49 #[.slice none 0 0, .slice none 0 0] w fun e w' => e = .returned (.tuple #[.map (some w.heap.size), .int .i64 0]) ∧ SMap w' w.heap.size (fun _ => none) ∧ Fr (fun _ => False) w w' := by
 have hmk := mk134
 have HM := Lib.hid (SMap.new w)
 have HF := Lib.hid ((Fr.refl (fun _ => False) w).alloc (.map #[] 0))
 go_enter Tryz.func49, Tryz.ntmps49
 go_wp2_with fail
 generalize w.alloc (.map #[] 0) = w1 at *
 go_loopg [16] (0) (fun gk a wr => a = .int .i64 0 ∧ w1 = wr)
 case atStart => exact ⟨rfl, rfl⟩
 case round =>
  obtain ⟨rfl, rfl⟩ := hrel
  go_wp2_with fail
  go_loopg [32] (0) (fun gk a wr => a = .int .i64 0 ∧ w1 = wr)
  case atStart => exact ⟨rfl, rfl⟩
  case round =>
   obtain ⟨rfl, rfl⟩ := hrel
   go_wp2_with fail
   go_loopg [43] (0) (fun gk a wr => a = .int .i64 0 ∧ w1 = wr)
   case atStart => exact ⟨rfl, rfl⟩
   case round =>
    obtain ⟨rfl, rfl⟩ := hrel
    go_wp2_with fail
    go_ret2
    exact ⟨rfl, HM.out, HF.out⟩
theorem by_ok (m : Value) (w : World) : Calls Tryz.prog 52 #[.slice none 0 0, m] w fun e w' => e = .returned (.tuple #[.map (some w.heap.size), .int .i64 0]) ∧ SMap w' w.heap.size (fun _ => none) ∧ Fr (fun _ => False) w w' := by
 have hmk := mk134
 have HM := Lib.hid (SMap.new w)
 have HF := Lib.hid ((Fr.refl (fun _ => False) w).alloc (.map #[] 0))
 go_enter Tryz.func52, Tryz.ntmps52
 go_wp2_with fail
 generalize w.alloc (.map #[] 0) = w1 at *
 go_loopg [13] (0) (fun gk a wr => a = .int .i64 0 ∧ w1 = wr)
 case atStart => exact ⟨rfl, rfl⟩
 case round =>
  obtain ⟨rfl, rfl⟩ := hrel
  go_wp2_with fail
  go_ret2
  exact ⟨rfl, HM.out, HF.out⟩

set_option maxRecDepth 100000 in
set_option maxHeartbeats 8000000 in
theorem cgroup_ok (xs : Value) (B c g : Nat) (w : World) (r0 : Nat) (hr : w.ownsRow B 68 17 (.slice (some ⟨g, 0, none⟩) 1 c) 1 (J68 xs).toList) : Calls Tryz.prog 50 #[.agg #[.map (some r0), .bool false], .agg #[.slice (some ⟨g, 0, none⟩) 1 c]] w fun e w' => e = .returned (.int .i64 0) ∧ Fr (fun _ => False) w w' := by
 have hmk := mk134
 have hcap := row_cap hr
 have hf : Fr (fun _ => False) w ((((w.alloc (.cells #[.map (some r0), .bool false] 138)).alloc (.cells #[.slice (some ⟨g, 0, none⟩) 1 c] 50)).alloc (.map #[] 0)).alloc (.map #[] 0)) := ((((Fr.refl _ _).alloc _).alloc _).alloc _).alloc _
 have hz1 : (w.alloc (.cells #[.map (some r0), .bool false] 138)).heap.size = w.heap.size + 1 := by simp
 have hz2 : ((w.alloc (.cells #[.map (some r0), .bool false] 138)).alloc (.cells #[.slice (some ⟨g, 0, none⟩) 1 c] 50)).heap.size = w.heap.size + 2 := by simp
 have hz3 : (((w.alloc (.cells #[.map (some r0), .bool false] 138)).alloc (.cells #[.slice (some ⟨g, 0, none⟩) 1 c] 50)).alloc (.map #[] 0)).heap.size = w.heap.size + 3 := by simp
 have hz4 : ((((w.alloc (.cells #[.map (some r0), .bool false] 138)).alloc (.cells #[.slice (some ⟨g, 0, none⟩) 1 c] 50)).alloc (.map #[] 0)).alloc (.map #[] 0)).heap.size = w.heap.size + 4 := by simp
 have m1 := SMap.new ((w.alloc (.cells #[.map (some r0), .bool false] 138)).alloc (.cells #[.slice (some ⟨g, 0, none⟩) 1 c] 50))
 rw [hz2] at m1
 have m1 := m1.fr ((Fr.refl (fun _ => False) _).alloc (.map #[] 0)) (fun h => h)
 have m2 := SMap.new (((w.alloc (.cells #[.map (some r0), .bool false] 138)).alloc (.cells #[.slice (some ⟨g, 0, none⟩) 1 c] 50)).alloc (.map #[] 0))
 rw [hz3] at m2
 have hx1 := (((Blk.new w 138 #[.map (some r0), .bool false]).alloc (.cells #[.slice (some ⟨g, 0, none⟩) 1 c] 50)).alloc (.map #[] 0)).alloc (.map #[] 0)
 have hx2 := Blk.new (w.alloc (.cells #[.map (some r0), .bool false] 138)) 50 #[.slice (some ⟨g, 0, none⟩) 1 c]
 rw [hz1] at hx2
 have hx2 := (hx2.alloc (.map #[] 0)).alloc (.map #[] 0)
 have hr4 := ownsRow_fr hr hf (fun _ _ h => h)
 have HX1 := Lib.hid hx1
 have HX2 := Lib.hid hx2
 have HM2 := Lib.hid m2
 have HR := Lib.hid hr4
 have HF := Lib.hid hf
 have x20 : ((((w.alloc (.cells #[.map (some r0), .bool false] 138)).alloc (.cells #[.slice (some ⟨g, 0, none⟩) 1 c] 50)).alloc (.map #[] 0)).alloc (.map #[] 0)).cell? ⟨w.heap.size + 1, 0, none⟩ = some (.slice (some ⟨g, 0, none⟩) 1 c) := hx2.cell 0
 have hrl : g < w.heap.size := (World.ownsRow.lt hr g rfl).2
 have HG := Lib.hid (ngroup_ok xs (w.heap.size + 2) B c g _ _ m1 hr4)
 have HCI := Lib.hid (fun w1 ma mb => citem_ok xs ma mb (.bool false) false rfl w1 r0)
 have HNI := Lib.hid (fun w1 f h1 => nitem_ok xs (w.heap.size + 3) f w1 h1)
 clear hf hr m1 m2 hx1 hx2 hr4 hz1 hz2 hz3
 go_enter Tryz.func50, Tryz.ntmps50
 go_wp2_with fail
 refine HG.out.mono ?_
 generalize ((((w.alloc (.cells #[.map (some r0), .bool false] 138)).alloc (.cells #[.slice (some ⟨g, 0, none⟩) 1 c] 50)).alloc (.map #[] 0)).alloc (.map #[] 0)) = w0 at *
 rintro e w1 ⟨rfl, hm1, hf1⟩
 have hx2 := HX2.out.fr hf1 (fun e => by omega)
 have x20 : w1.cell? ⟨w.heap.size + 1, 0, none⟩ = some (.slice (some ⟨g, 0, none⟩) 1 c) := hx2.cell 0
 have HX11 := Lib.hid (HX1.out.fr hf1 (fun e => by omega))
 have HM21 := Lib.hid (HM2.out.fr hf1 (fun e => by omega))
 have HR1 := Lib.hid (ownsRow_fr HR.out hf1 (fun k hk e => by injection hk with hk; have : g = k := hk; omega))
 have hs1 := hf1.size
 have HF1 := Lib.hid ((HF.out.up).trans (hf1.mono (T := fun j => w.heap.size ≤ j) (fun _ _ h => by omega)) (fun _ _ h => h))
 clear hm1 hf1 hx2
 go_wp2_with fail
 go_loopg [18] (1) (fun gk a wr => (a = .int .i64 0 ∧ gk = 1 ∧ w1 = wr) ∨ (a = .int .i64 1 ∧ Fr (fun j => w.heap.size ≤ j) w wr))
 case atStart => exact .inl ⟨rfl, rfl, rfl⟩
 case round =>
  obtain ⟨rfl, rfl, rfl⟩ | ⟨rfl, hf⟩ := hrel
  · have hfa : Fr (fun _ => False) w1 (w1.alloc (.cells (J68 xs) 68)) := (Fr.refl _ _).alloc _
    have HMA := Lib.hid (HM21.out.fr hfa (fun h => h))
    have HFA := Lib.hid (HF1.out.andF hfa)
    have HBA := Lib.hid (Blk.new w1 68 (J68 xs))
    have HRA := Lib.hid (row_cells HR1.out)
    have xa := (HX11.out.fr hfa (fun h => h))
    have xa0 : (w1.alloc (.cells (J68 xs) 68)).cell? ⟨w.heap.size, 0, none⟩ = some (.map (some r0)) := xa.cell 0
    have xa1 : (w1.alloc (.cells (J68 xs) 68)).cell? ⟨w.heap.size, 1, none⟩ = some (.bool false) := xa.cell 1
    clear hfa xa
    go_wp2_with (first | ((with_reducible change wpList _ _ _ (Oper.mk _ (.load 68 (.tmp 20)) _ _ _ _ :: _) _ _); refine wpList_load_mid rfl 68 _ rfl _ _ rfl _ _ HRA.out Tryz.underlying68 rfl inf68 ?_) | ((with_reducible change wpList _ _ _ (Oper.mk _ (.load 68 _) _ _ _ _ :: _) _ _); refine wpList_load_blk rfl 68 _ rfl _ rfl 68 (J68 xs) HBA.out _ Tryz.underlying68 rfl inf68 ?_))
    refine (HCI.out _ _ _).mono ?_
    rintro e w2 ⟨rfl, hf2⟩
    have HMB := Lib.hid (HMA.out.fr hf2 (fun h => h))
    have HFB := Lib.hid (HFA.out.andF hf2)
    have HBB := Lib.hid (HBA.out.fr hf2 (fun h => h))
    have HC2 := Lib.hid (HNI.out _ _ HMB.out)
    clear hf2 xa0 xa1
    go_wp2_with ((with_reducible change wpList _ _ _ (Oper.mk _ (.load 68 _) _ _ _ _ :: _) _ _); refine wpList_load_blk rfl 68 _ rfl _ rfl 68 (J68 xs) HBB.out _ Tryz.underlying68 rfl inf68 ?_)
    refine HC2.out.mono ?_
    rintro e w3 ⟨rfl, hm3, hf3⟩
    have HFC := Lib.hid (HFB.out.trans (hf3.mono (T := fun j => w.heap.size ≤ j) (fun _ _ h => by omega)) (fun _ _ h => h))
    clear hm3 hf3
    go_wp2_with fail
    go_roundg (0)
    case measure => decide
    exact .inr ⟨rfl, HFC.out⟩
  · have HFC := Lib.hid hf
    clear hf
    go_wp2_with fail
    go_ret
    exact ⟨rfl, HFC.out.shut (Nat.le_refl _)⟩

theorem gr87_ok (y : ByteArray) (w : World) : Calls Tryz.prog 87 #[.agg #[.string y, .string ⟨#[]⟩, .string ⟨#[]⟩]] w (IsB false w) := by
 have HF := Lib.hid ((Fr.refl (fun _ => False) w).alloc (.cells #[.string y, .string ⟨#[]⟩, .string ⟨#[]⟩] 122))
 go_enter Tryz.func87, Tryz.ntmps87
 go_wp2_with fail
 go_ret
 exact IsB.mk HF.out
theorem idx113_ok (y : ByteArray) (g : Nat) (w : World) (h : Blk w g 122 #[.string y, .string ⟨#[]⟩, .string ⟨#[]⟩]) : Calls Tryz.prog 113 #[.slice (some ⟨g, 0, none⟩) 1 1, .func (.func 87) #[] #[]] w fun e w' => e = .returned (.int .i64 (-1)) ∧ Fr (fun _ => False) w w' := by
 have c0 : w.cell? ⟨g, 0, none⟩ = some (.string y) := h.cell 0
 have c1 : w.cell? ⟨g, 1, none⟩ = some (.string ⟨#[]⟩) := h.cell 1
 have c2 : w.cell? ⟨g, 2, none⟩ = some (.string ⟨#[]⟩) := h.cell 2
 have HC := Lib.hid (gr87_ok y w)
 clear h
 go_enter Tryz.func113, Tryz.ntmps113
 go_wp2_with fail
 go_loopg [8] (1) (fun gk a wr => (a = .int .i64 0 ∧ gk = 1 ∧ w = wr) ∨ (a = .int .i64 1 ∧ Fr (fun _ => False) w wr))
 case atStart => exact .inl ⟨rfl, rfl, rfl⟩
 case round =>
  obtain ⟨rfl, rfl, rfl⟩ | ⟨rfl, hf⟩ := hrel
  · go_wp2_with fail
    refine HC.out.mono ?_
    rintro e w2 ⟨rfl, hf2⟩
    go_wp2_with fail
    go_roundg (0)
    case measure => decide
    exact .inr ⟨rfl, hf2⟩
  · go_wp2_with fail
    go_ret
    exact ⟨rfl, hf⟩
theorem has86_ok (y : ByteArray) (g : Nat) (w : World) (h : Blk w g 122 #[.string y, .string ⟨#[]⟩, .string ⟨#[]⟩]) : Calls Tryz.prog 86 #[.slice (some ⟨g, 0, none⟩) 1 1, .func (.func 87) #[] #[]] w (IsB false w) := by
 have HI := Lib.hid (idx113_ok y g w h)
 clear h
 go_enter Tryz.func86, Tryz.ntmps86
 go_wp2_with fail
 refine HI.out.mono ?_
 rintro e w1 ⟨rfl, hf1⟩
 go_wp2_with fail
 go_ret
 exact IsB.mk hf1
/-- The example's tree. -/
abbrev Q52 (s1 s2 : ByteArray) (g gg c : Nat) : Array Value := #[.string s1, .string s2, .bool false, .slice (some ⟨g, 0, none⟩) 1 1, .slice none 0 0, .slice (some ⟨gg, 0, none⟩) 1 c, .slice none 0 0]
theorem grouped_ok (s1 s2 y : ByteArray) (g gg c : Nat) (w : World) (h : Blk w g 122 #[.string y, .string ⟨#[]⟩, .string ⟨#[]⟩]) : Calls Tryz.prog 56 #[.agg (Q52 s1 s2 g gg c)] w (IsB false w) := by
 have hf : Fr (fun _ => False) w (w.alloc (.cells (Q52 s1 s2 g gg c) 52)) := (Fr.refl _ _).alloc _
 have HI := Lib.hid (has86_ok y g _ (h.fr hf (fun h => h)))
 have HF := Lib.hid hf
 clear h hf
 go_enter Tryz.func56, Tryz.ntmps56
 go_wp2_with fail
 refine HI.out.mono ?_
 rintro e w1 ⟨rfl, hf1⟩
 have HF1 := Lib.hid (HF.out.trans' hf1)
 go_wp2_with fail
 go_ret
 exact IsB.mk HF1.out
theorem selection_ok (y : ByteArray) (ra : Nat) (m : Value) (f : ByteArray → Option Value) (w : World) (hm : SMap w ra f) (hy : f y = none) : Calls Tryz.prog 55 #[.agg #[.string y, .string ⟨#[]⟩, .string ⟨#[]⟩], .map (some ra), m, .bool false] w fun e w' => e = .returned (.int .i64 12) ∧ Fr (fun _ => False) w w' := by
 have hf : Fr (fun _ => False) w (w.alloc (.cells #[.string y, .string ⟨#[]⟩, .string ⟨#[]⟩] 122)) := (Fr.refl _ _).alloc _
 have hlk := run_lookup_s (hm.fr hf (fun h => h)) 134 4 Tryz.underlying134 (.bool false) (zero4 _) y
 rw [hy] at hlk
 have HF := Lib.hid hf
 have HU := Lib.hid (fun b k w1 => unless_ok b k w1)
 clear hf hm
 go_enter Tryz.func55, Tryz.ntmps55
 go_wp2_with fail
 refine (HU.out _ _ _).mono ?_
 rintro e w1 ⟨rfl, rfl⟩
 go_wp2_with fail
 go_ret
 exact ⟨rfl, HF.out⟩

/-- What the walk of the last part reads. -/
structure CK (s1 s2 y : ByteArray) (g gg c bx bq rs ra : Nat) (f : ByteArray → Option Value) (w : World) : Prop where
 bx : Blk w bx 122 #[.string y, .string ⟨#[]⟩, .string ⟨#[]⟩]
 bq : Blk w bq 52 (Q52 s1 s2 g gg c)
 sl : Blk w g 122 #[.string y, .string ⟨#[]⟩, .string ⟨#[]⟩]
 seen : SMap w rs (fun _ => none)
 all : SMap w ra f
theorem CK.fr {s1 s2 y : ByteArray} {g gg c bx bq rs ra : Nat} {f : ByteArray → Option Value} {w w' : World} (h : CK s1 s2 y g gg c bx bq rs ra f w) (hf : Fr (fun _ => False) w w') : CK s1 s2 y g gg c bx bq rs ra f w' :=
 ⟨h.bx.fr hf (fun h => h), h.bq.fr hf (fun h => h), h.sl.fr hf (fun h => h), h.seen.fr hf (fun h => h), h.all.fr hf (fun h => h)⟩
theorem CK.facts {s1 s2 y : ByteArray} {g gg c bx bq rs ra : Nat} {f : ByteArray → Option Value} {w : World} (h : CK s1 s2 y g gg c bx bq rs ra f w) :
    w.cell? ⟨bx, 0, none⟩ = some (.string y) ∧ w.cell? ⟨bx, 1, none⟩ = some (.string ⟨#[]⟩) ∧ w.cell? ⟨bx, 2, none⟩ = some (.string ⟨#[]⟩) ∧
    w.cell? ⟨bq, 0, none⟩ = some (.string s1) ∧ w.cell? ⟨bq, 1, none⟩ = some (.string s2) ∧ w.cell? ⟨bq, 2, none⟩ = some (.bool false) ∧ w.cell? ⟨bq, 3, none⟩ = some (.slice (some ⟨g, 0, none⟩) 1 1) ∧ w.cell? ⟨bq, 4, none⟩ = some (.slice none 0 0) ∧ w.cell? ⟨bq, 5, none⟩ = some (.slice (some ⟨gg, 0, none⟩) 1 c) ∧ w.cell? ⟨bq, 6, none⟩ = some (.slice none 0 0) ∧
    (Instr.lookup 134 (.map (some rs)) (.string y) false).run Tryz.prog w = .ok (.bool false) w :=
 ⟨h.bx.cell 0, h.bx.cell 1, h.bx.cell 2, h.bq.cell 0, h.bq.cell 1, h.bq.cell 2, h.bq.cell 3, h.bq.cell 4, h.bq.cell 5, h.bq.cell 6, run_lookup_s h.seen 134 4 Tryz.underlying134 (.bool false) (zero4 _) y⟩
set_option maxRecDepth 100000 in
set_option maxHeartbeats 8000000 in
theorem check_ok (xs : Value) (s1 s2 y : ByteArray) (hy : ¬ y = ⟨#[120]⟩) (B g gg c : Nat) (w : World) (hr : w.ownsRow B 68 17 (.slice (some ⟨gg, 0, none⟩) 1 c) 1 (J68 xs).toList) (hb : Blk w g 122 #[.string y, .string ⟨#[]⟩, .string ⟨#[]⟩]) :
    Calls Tryz.prog 23 #[.agg (Q52 s1 s2 g gg c), .slice none 0 0] w fun e w' => e = .returned (.int .i64 12) ∧ Fr (fun _ => False) w w' := by
 have hmk := mk134
 have hfy : putK (fun _ => none) ⟨#[120]⟩ y = none := if_neg hy
 have hf : Fr (fun _ => False) w (w.alloc (.cells (Q52 s1 s2 g gg c) 52)) := (Fr.refl _ _).alloc _
 have hz : (w.alloc (.cells (Q52 s1 s2 g gg c) 52)).heap.size = w.heap.size + 1 := by simp
 have HS := src_ok (w.alloc (.cells (Q52 s1 s2 g gg c) 52))
 rw [hz] at HS
 have HSR := Lib.hid HS
 have HX := Lib.hid (Blk.new w 52 (Q52 s1 s2 g gg c))
 have HR := Lib.hid (ownsRow_fr hr hf (fun _ _ h => h))
 have HB := Lib.hid (hb.fr hf (fun h => h))
 have HF := Lib.hid hf
 have HGR := Lib.hid (fun w1 h1 => grouped_ok s1 s2 y g gg c w1 h1)
 have HU := Lib.hid (fun b k w1 => unless_ok b k w1)
 clear hr hb hf HS
 go_enter Tryz.func23, Tryz.ntmps23
 go_wp2_with fail
 refine HSR.out.mono ?_
 generalize (w.alloc (.cells (Q52 s1 s2 g gg c) 52)) = w0 at *
 rintro e w1 ⟨rfl, _, hf1⟩
 have hx1 := HX.out.fr hf1 (fun h => h)
 have x5 : w1.cell? ⟨w.heap.size, 5, none⟩ = some (.slice (some ⟨gg, 0, none⟩) 1 c) := hx1.cell 5
 have HX1 := Lib.hid hx1
 have HR1 := Lib.hid (ownsRow_fr HR.out hf1 (fun _ _ h => h))
 have HB1 := Lib.hid (HB.out.fr hf1 (fun h => h))
 have HF1 := Lib.hid (HF.out.trans' hf1)
 have HCG := Lib.hid (cgroup_ok xs B c gg w1 (w.heap.size + 1) HR1.out)
 clear hf1 hx1 HX HR HB HF HSR hz
 go_wp2_with fail
 refine HCG.out.mono ?_
 rintro e w2 ⟨rfl, hf2⟩
 have hfa : Fr (fun _ => False) w1 (w2.alloc (.map #[] 0)) := hf2.alloc _
 have hx2 := HX1.out.fr hfa (fun h => h)
 have x5 : (w2.alloc (.map #[] 0)).cell? ⟨w.heap.size, 5, none⟩ = some (.slice (some ⟨gg, 0, none⟩) 1 c) := hx2.cell 5
 have HX2 := Lib.hid hx2
 have HR2 := Lib.hid (ownsRow_fr HR1.out hfa (fun _ _ h => h))
 have HB2 := Lib.hid (HB1.out.fr hfa (fun h => h))
 have HF2 := Lib.hid (HF1.out.trans' hfa)
 have HNG := Lib.hid (ngroup_ok xs w2.heap.size B c gg (fun _ => none) _ (SMap.new w2) HR2.out)
 have h20 := HF1.out.size
 have h21 := hf2.size
 have hxl : w.heap.size < w2.heap.size := Nat.lt_of_lt_of_le HX1.out.lt hf2.size
 have hbl : g < w2.heap.size := Nat.lt_of_lt_of_le HB1.out.lt hf2.size
 clear hfa hx2 HX1 HR1 HB1 HF1 HCG hf2
 go_wp2_with fail
 refine HNG.out.mono ?_
 generalize (w2.alloc (.map #[] 0)) = w2a at *
 rintro e w3 ⟨rfl, hm3, hf3⟩
 have hx3 := HX2.out.fr hf3 (fun e => by omega)
 have x6 : w3.cell? ⟨w.heap.size, 6, none⟩ = some (.slice none 0 0) := hx3.cell 6
 have HX3 := Lib.hid hx3
 have HB3 := Lib.hid (HB2.out.fr hf3 (fun e => by omega))
 have HM3 := Lib.hid hm3
 have HF3 := Lib.hid ((HF2.out.up.trans (hf3.mono (T := fun j => w.heap.size ≤ j) (fun _ _ h => by omega)) (fun _ _ h => h)).shut (Nat.le_refl _))
 have HBY := Lib.hid (by_ok (.map (some w2.heap.size)) w3)
 clear hx3 hm3 hf3 HX2 HB2 HF2 HR2 HNG x5
 go_wp2_with fail
 refine HBY.out.mono ?_
 rintro e w4 ⟨rfl, _, hf4⟩
 have hfb : Fr (fun _ => False) w3 (w4.alloc (.map #[] 0)) := hf4.alloc _
 have hx5 := HX3.out.fr hfb (fun h => h)
 have HX5 := Lib.hid hx5
 have x3 : (w4.alloc (.map #[] 0)).cell? ⟨w.heap.size, 3, none⟩ = some (.slice (some ⟨g, 0, none⟩) 1 1) := hx5.cell 3
 have HB5 := Lib.hid (HB3.out.fr hfb (fun h => h))
 have HM5 := Lib.hid (HM3.out.fr hfb (fun h => h))
 have HF5 := Lib.hid (HF3.out.trans' hfb)
 have HN5 := Lib.hid (SMap.new w4)
 clear hfb hf4 hx5 HX3 HB3 HM3 HF3 x6 HBY
 go_wp2_with fail
 generalize (w4.alloc (.map #[] 0)) = w5 at *
 go_loopg [51] (1) (fun gk a wr => a = .int .i64 0 ∧ gk = 1 ∧ w5 = wr)
 case atStart => exact ⟨rfl, rfl, rfl⟩
 case round =>
  obtain ⟨rfl, rfl, rfl⟩ := hrel
  have c0 : w5.cell? ⟨g, 0, none⟩ = some (.string y) := HB5.out.cell 0
  have c1 : w5.cell? ⟨g, 1, none⟩ = some (.string ⟨#[]⟩) := HB5.out.cell 1
  have c2 : w5.cell? ⟨g, 2, none⟩ = some (.string ⟨#[]⟩) := HB5.out.cell 2
  have hf6 : Fr (fun _ => False) w5 (w5.alloc (.cells #[.string y, .string ⟨#[]⟩, .string ⟨#[]⟩] 122)) := (Fr.refl _ _).alloc _
  have HF6 := Lib.hid (HF5.out.trans' hf6)
  have hk : CK s1 s2 y g gg c w5.heap.size w.heap.size w4.heap.size w2.heap.size (putK (fun _ => none) ⟨#[120]⟩) (w5.alloc (.cells #[.string y, .string ⟨#[]⟩, .string ⟨#[]⟩] 122)) := ⟨Blk.new _ _ _, HX5.out.fr hf6 (fun h => h), HB5.out.fr hf6 (fun h => h), HN5.out.fr hf6 (fun h => h), HM5.out.fr hf6 (fun h => h)⟩
  have K6 := Lib.hid (hk); obtain ⟨k0_6, k1_6, k2_6, q0_6, q1_6, q2_6, q3_6, q4_6, q5_6, q6_6, lk_6⟩ := K6.out.facts
  have lkd := (K6.out.fr (Fr.refl (fun _ => False) _).drew).facts.2.2.2.2.2.2.2.2.2.2
  clear hk hf6 x3 HX5 HB5 HM5 HF5 HN5
  go_wp2_with fail
  generalize hw6 : (w5.alloc (.cells #[.string y, .string ⟨#[]⟩, .string ⟨#[]⟩] 122)) = w6 at *
  go_region_law (first
   | (go_simp; go_at_call 54; refine (HU.out _ _ _).mono ?_; rintro e wu ⟨rfl, rfl⟩)
   | (go_simp; go_at_call 56; refine (HGR.out _ (K6.out.fr (by repeat' (first | exact Fr.refl _ _ | refine Fr.drew ?_))).sl).mono ?_; rintro e w7 ⟨rfl, hf7⟩; have F7 : Fr (fun _ => False) w6 w7 := Fr.trans' (by repeat' (first | exact Fr.refl _ _ | refine Fr.drew ?_)) hf7; have K7 := Lib.hid (K6.out.fr F7); obtain ⟨k0_7, k1_7, k2_7, q0_7, q1_7, q2_7, q3_7, q4_7, q5_7, q6_7, lk_7⟩ := K7.out.facts)
   | (go_simp; go_at_call 55; refine (selection_ok y w2.heap.size _ _ _ (K7.out.fr (by repeat' (first | exact Fr.refl _ _ | refine Fr.drew ?_))).all hfy).mono ?_; rintro e w8 ⟨rfl, hf8⟩; have F8 : Fr (fun _ => False) w7 w8 := Fr.trans' (by repeat' (first | exact Fr.refl _ _ | refine Fr.drew ?_)) hf8; have K8 := Lib.hid (K7.out.fr F8); obtain ⟨k0_8, k1_8, k2_8, q0_8, q1_8, q2_8, q3_8, q4_8, q5_8, q6_8, lk_8⟩ := K8.out.facts)
   | (go_simp; go_at_call 53; refine (first_ok 12 (by decide) _ _ (by first | exact Blk.new _ _ _ | exact (Blk.new _ _ _).drew)).mono ?_; rintro e w9 ⟨rfl, rfl⟩))
  all_goals
   have HF9 := Lib.hid (((HF6.out.trans' F7).trans' F8).alloc (.cells #[.int .i64 0, .int .i64 12] 53))
   clear F7 F8 hf7 hf8 lkd HF6 hw6 K6 k0_6 k1_6 k2_6 q0_6 q1_6 q2_6 q3_6 q4_6 q5_6 q6_6 lk_6 K7 k0_7 k1_7 k2_7 q0_7 q1_7 q2_7 q3_7 q4_7 q5_7 q6_7 lk_7 K8 k0_8 k1_8 k2_8 q0_8 q1_8 q2_8 q3_8 q4_8 q5_8 q6_8 lk_8
   go_wp2_with fail
   go_ret
   exact ⟨rfl, HF9.out⟩

/-- The example's tree, as the check reads it. -/
theorem awk_parts {w : World} {B : Nat} {cs : List Value} (h : awkQ w B cs) : ∃ (xs : Value) (g gg c : Nat), cs = (Q52 tRS ⟨lUO.toArray⟩ g gg c).toList ∧ Blk w g 122 #[.string ⟨#[121]⟩, .string ⟨#[]⟩, .string ⟨#[]⟩] ∧ w.ownsRow B 68 17 (.slice (some ⟨gg, 0, none⟩) 1 c) 1 (J68 xs).toList := by
 obtain ⟨g, v, rfl, hb, hG⟩ := h
 obtain ⟨A, c, pk, pi, pA, pn, pc, rfl, hr, hp⟩ := hG
 obtain ⟨gg, rfl⟩ := row_addr hr (by decide)
 cases hp
 exact ⟨_, g, gg, c, rfl, hb, hr⟩
set_option maxRecDepth 100000 in
set_option maxHeartbeats 8000000 in
theorem awake_ok (w : World) (hg : Sg w) : Calls Tryz.prog 11 #[] w (IsB true w) := by
 have hp := awk_parse w hg
 unfold awkY at hp
 have HP := Lib.hid hp
 clear hp hg
 go_enter Tryz.func11, Tryz.ntmps11
 go_wp2_with fail
 refine HP.out.mono ?_
 rintro e w1 ⟨cs, rfl, hq, hf1⟩
 obtain ⟨xs, g, gg, c, rfl, hb, hr⟩ := awk_parts hq
 have hfa : Fr (fun _ => False) w1 (w1.alloc (.cells (Q52 tRS ⟨lUO.toArray⟩ g gg c) 52)) := (Fr.refl _ _).alloc _
 have HC := Lib.hid (check_ok xs tRS ⟨lUO.toArray⟩ ⟨#[121]⟩ (by decide) w.heap.size g gg c _ (ownsRow_fr hr hfa (fun _ _ h => h)) (hb.fr hfa (fun h => h)))
 have HF := Lib.hid (hf1.trans' hfa)
 clear hq hf1 hb hr hfa HP
 generalize tRS = s1 at *
 generalize (⟨lUO.toArray⟩ : ByteArray) = s2 at *
 go_wp2_with fail
 refine HC.out.mono ?_
 rintro e w2 ⟨rfl, hf2⟩
 have HF2 := Lib.hid (HF.out.trans' hf2)
 go_wp2_with fail
 go_ret
 exact IsB.mk HF2.out

theorem ours_of (s : ByteArray) : Ours (((⟨#[82, 69, 71, 73, 83, 84, 69, 82, 32, 82, 83, 84, 82, 69, 65, 77, 32, 60, 117, 58, 111, 62, 32, 65, 83, 32, 83, 69, 76, 69, 67, 84, 32, 63, 120, 32, 87, 72, 69, 82, 69, 32, 123, 32, 63, 120, 32]⟩ : ByteArray) ++ s) ++ ⟨#[32, 63, 121, 32, 46, 32, 125]⟩) s.data.toList := ⟨by
 apply ByteArray.ext
 rw [ByteArray.data_append, ByteArray.data_append]
 apply Array.toList_inj.1
 simp only [Array.toList_append]
 rfl⟩
set_option maxRecDepth 100000 in
set_option maxHeartbeats 8000000 in
theorem law_any (s : ByteArray) (w : World) (hg : Sg w) : Calls Tryz.prog 4 #[.string s] w (IsB true w) := by
 have HAW := Lib.hid (fun w1 h1 => awake_ok w1 h1)
 have HG := Lib.hid hg
 clear hg
 go_enter Tryz.func4, Tryz.ntmps4
 go_wp2_with fail
 refine (HAW.out _ HG.out).mono ?_
 rintro e w1 ⟨rfl, hf1⟩
 have HG1 := Lib.hid (HG.out.frF hf1)
 have HF1 := Lib.hid hf1
 clear hf1 HG
 by_cases hlen : 3000 < s.size
 · have h3 : decide ((3000 : Int) < (s.size : Int)) = true := decide_eq_true (by omega)
   go_wp2_with fail
   refine (HAW.out _ HG1.out).mono ?_
   rintro e w2 ⟨rfl, hf2⟩
   go_wp2_with fail
   go_ret
   exact IsB.mk (HF1.out.trans' hf2)
 · have h3 : decide ((3000 : Int) < (s.size : Int)) = false := decide_eq_false (by omega)
   have ho := ours_of s
   go_wp2_with fail
   generalize ((⟨#[82, 69, 71, 73, 83, 84, 69, 82, 32, 82, 83, 84, 82, 69, 65, 77, 32, 60, 117, 58, 111, 62, 32, 65, 83, 32, 83, 69, 76, 69, 67, 84, 32, 63, 120, 32, 87, 72, 69, 82, 69, 32, 123, 32, 63, 120, 32]⟩ : ByteArray) ++ s ++ ⟨#[32, 63, 121, 32, 46, 32, 125]⟩) = T at *
   have hTz : T.size = 54 + s.size := ho.size
   have hTs : T.size ≤ 3100 := by omega
   clear HAW h3 hTz hlen
   have HO := Lib.hid ho
   refine (rparse_any T _ w1 ho (by omega)).mono ?_
   clear ho
   rintro e w2 ⟨k, i, A1, n1, c1, A, n, c, A4, n4, c4, b, rfl, hf2, hb⟩
   have hfa : Fr (fun _ => False) w2 (w2.alloc (.cells #[.string k, .string i, .bool false, .slice A1 n1 c1, .slice none 0 0, .slice A n c, .slice A4 n4 c4] 30)) := (Fr.refl _ _).alloc _
   have HBX := Lib.hid (Blk.new w2 30 #[.string k, .string i, .bool false, .slice A1 n1 c1, .slice none 0 0, .slice A n c, .slice A4 n4 c4])
   have x5 : (w2.alloc (.cells #[.string k, .string i, .bool false, .slice A1 n1 c1, .slice none 0 0, .slice A n c, .slice A4 n4 c4] 30)).cell? ⟨w2.heap.size, 5, none⟩ = some (.slice A n c) := HBX.out.cell 5
   have HF2 := Lib.hid ((HF1.out.trans' hf2).trans' hfa)
   have HG2 := Lib.hid ((HG1.out.frF hf2).frF hfa)
   clear HG1 HF1
   cases b with
   | false =>
    clear hb
    go_wp2_with fail
    go_ret
    exact IsB.mk HF2.out
   | true =>
    obtain ⟨hok, hn1⟩ := hb rfl
    clear hb
    by_cases hn : n = 1
    · subst hn
      obtain ⟨cs, hrow, hN, pv, hpv, hpath⟩ := hn1 rfl
      obtain ⟨gr, rfl⟩ := row_addr hrow (by decide)
      have hcap := row_cap hrow
      have hrow3 := ownsRow_fr hrow hfa (fun _ _ h => h)
      have hra := row_cells hrow3
      have r7 : (w2.alloc (.cells #[.string k, .string i, .bool false, .slice A1 n1 c1, .slice none 0 0, .slice (some ⟨gr, 0, none⟩) 1 c, .slice A4 n4 c4] 30)).cell? ⟨gr, 7, none⟩ = some (.string pv) := by
       have h := hra 7 (.string pv) (by rw [Array.getElem?_toList]; exact hpv)
       rwa [Nat.zero_add] at h
      by_cases hpe : pv = ⟨#[]⟩
      · subst hpe
        obtain ⟨t, e0, d, hP, hd, hske, hle, hpa⟩ := hpath rfl
        obtain ⟨hH, hTl, hv, hwt, hTx⟩ := HO.out.facts hok
        have hrl := hTx.le
        have hK := PathP.kinds _ _ _ _ _ hP
        have hW := PathP.wd (by omega) hv _ _ _ _ _ hP (by have := hH.n; omega)
        have HPR := Lib.hid (our_parse T (rSigns T).1 hTx hH hTl (by omega) (by omega) (by omega) _ t e0 d hP hd hske _ HG2.out)
        have hpa3 := hpa.frF hfa
        obtain ⟨k3, i3, A3, n3, c3, hl3⟩ := hpa3.cells
        rw [hl3] at hpa3
        have hsub : ∀ m v, m < 3 → (sub cs 19 3)[m]? = some v → (w2.alloc (.cells #[.string k, .string i, .bool false, .slice A1 n1 c1, .slice none 0 0, .slice (some ⟨gr, 0, none⟩) 1 c, .slice A4 n4 c4] 30)).cell? ⟨gr, 19 + m, none⟩ = some v := fun m v hm h => by
         have h2 := hra (19 + m) v (by
          unfold sub at h
          rw [List.getElem?_take, if_pos hm, List.getElem?_drop] at h
          exact h)
         rwa [Nat.zero_add] at h2
        rw [hl3] at hsub
        have HS0 := Lib.hid (hsub 0 _ (by decide) rfl)
        have HS1 := Lib.hid (hsub 1 _ (by decide) rfl)
        have HS2 := Lib.hid (hsub 2 _ (by decide) rfl)
        have HPA := Lib.hid hpa3
        have hrlt := (World.ownsRow.lt hrow3 gr rfl).2
        have hxlt := HBX.out.lt
        clear hpath hn1 hok hra hsub hl3 hpa hpa3 hrow hrow3 hpv hfa HO hP hd hske hle hH hTl hv hwt hTx hrl HG2 hN cs hf2 hTs
        go_wp2_with fail
        refine HPR.out.mono ?_
        generalize (w2.alloc (.cells #[.string k, .string i, .bool false, .slice A1 n1 c1, .slice none 0 0, .slice (some ⟨gr, 0, none⟩) 1 c, .slice A4 n4 c4] 30)) = w3 at *
        rintro e w4 ⟨cs2, rfl, hq, hf4⟩
        obtain ⟨g2, v2, rfl, A5, c5, pk, pi, pA, pn, pc, rfl, hr2, hp2⟩ := hq
        obtain ⟨gg, rfl⟩ := row_addr hr2 (by decide)
        have hcap2 := row_cap hr2
        have hfb : Fr (fun _ => False) w4 (w4.alloc (.cells #[.string tRS, .string ⟨lUO.toArray⟩, .bool false, .slice (some ⟨g2, 0, none⟩) 1 1, .slice none 0 0, .slice (some ⟨gg, 0, none⟩) 1 c5, .slice none 0 0] 52)) := (Fr.refl _ _).alloc _
        have hfc := hf4.trans' hfb
        have hra2 := row_cells (ownsRow_fr hr2 hfb (fun _ _ h => h))
        have x5 : (w4.alloc (.cells #[.string tRS, .string ⟨lUO.toArray⟩, .bool false, .slice (some ⟨g2, 0, none⟩) 1 1, .slice none 0 0, .slice (some ⟨gg, 0, none⟩) 1 c5, .slice none 0 0] 52)).cell? ⟨w2.heap.size, 5, none⟩ = some (.slice (some ⟨gr, 0, none⟩) 1 c) := (HBX.out.fr hfc (fun h => h)).cell 5
        have y5 : (w4.alloc (.cells #[.string tRS, .string ⟨lUO.toArray⟩, .bool false, .slice (some ⟨g2, 0, none⟩) 1 1, .slice none 0 0, .slice (some ⟨gg, 0, none⟩) 1 c5, .slice none 0 0] 52)).cell? ⟨w4.heap.size, 5, none⟩ = some (.slice (some ⟨gg, 0, none⟩) 1 c5) := (Blk.new w4 52 _).cell 5
        have p7 : (w4.alloc (.cells #[.string tRS, .string ⟨lUO.toArray⟩, .bool false, .slice (some ⟨g2, 0, none⟩) 1 1, .slice none 0 0, .slice (some ⟨gg, 0, none⟩) 1 c5, .slice none 0 0] 52)).cell? ⟨gg, 7, none⟩ = some (.int .i64 pk) := hra2 7 _ rfl
        have p8 : (w4.alloc (.cells #[.string tRS, .string ⟨lUO.toArray⟩, .bool false, .slice (some ⟨g2, 0, none⟩) 1 1, .slice none 0 0, .slice (some ⟨gg, 0, none⟩) 1 c5, .slice none 0 0] 52)).cell? ⟨gg, 8, none⟩ = some (.string pi) := hra2 8 _ rfl
        have p9 : (w4.alloc (.cells #[.string tRS, .string ⟨lUO.toArray⟩, .bool false, .slice (some ⟨g2, 0, none⟩) 1 1, .slice none 0 0, .slice (some ⟨gg, 0, none⟩) 1 c5, .slice none 0 0] 52)).cell? ⟨gg, 9, none⟩ = some (.slice pA pn pc) := hra2 9 _ rfl
        have s0 : (w4.alloc (.cells #[.string tRS, .string ⟨lUO.toArray⟩, .bool false, .slice (some ⟨g2, 0, none⟩) 1 1, .slice none 0 0, .slice (some ⟨gg, 0, none⟩) 1 c5, .slice none 0 0] 52)).cell? ⟨gr, 19, none⟩ = some (.int .i64 k3) := cell_fr hfc HS0.out
        have s1 : (w4.alloc (.cells #[.string tRS, .string ⟨lUO.toArray⟩, .bool false, .slice (some ⟨g2, 0, none⟩) 1 1, .slice none 0 0, .slice (some ⟨gg, 0, none⟩) 1 c5, .slice none 0 0] 52)).cell? ⟨gr, 20, none⟩ = some (.string i3) := cell_fr hfc HS1.out
        have s2 : (w4.alloc (.cells #[.string tRS, .string ⟨lUO.toArray⟩, .bool false, .slice (some ⟨g2, 0, none⟩) 1 1, .slice none 0 0, .slice (some ⟨gg, 0, none⟩) 1 c5, .slice none 0 0] 52)).cell? ⟨gr, 21, none⟩ = some (.slice A3 n3 c3) := cell_fr hfc HS2.out
        have HX5 := Lib.hid (HBX.out.fr hfc (fun h => h))
        have HPA5 := Lib.hid (HPA.out.frF hfc)
        have HPP5 := Lib.hid (hp2.frF hfb)
        have HF5 := Lib.hid (HF2.out.trans' hfc)
        have HNU := Lib.hid (fun w1 h1 => number_ok sz 14 enter14 (fun i w => size14 i w) t hK hW w1 _ _ (HPP5.out.frF h1))
        have HNB := Lib.hid (fun w1 B2 l2 (h1 : Fr (fun _ => False) _ w1) h2 => numbered_ok t hK hW w1 _ B2 _ l2 (HPA5.out.frF h1) h2)
        have hrl5 : gr < (w4.alloc (.cells #[.string tRS, .string ⟨lUO.toArray⟩, .bool false, .slice (some ⟨g2, 0, none⟩) 1 1, .slice none 0 0, .slice (some ⟨gg, 0, none⟩) 1 c5, .slice none 0 0] 52)).heap.size := Nat.lt_of_lt_of_le hrlt hfc.size
        unfold NPost at HNU
        clear hr2 hp2 hfb hfc hra2 HPA HPP5 HPA5 HBX HF2 HS0 HS1 HS2 r7 hK hW hf4 HPR
        generalize tRS = z1 at *
        generalize (⟨lUO.toArray⟩ : ByteArray) = z2 at *
        go_wp2_with fail
        generalize (w4.alloc (.cells #[.string z1, .string z2, .bool false, .slice (some ⟨g2, 0, none⟩) 1 1, .slice none 0 0, .slice (some ⟨gg, 0, none⟩) 1 c5, .slice none 0 0] 52)) = w5 at *
        go_region_law (first
         | (go_simp; go_at_call 13; refine (HNU.out _ (by repeat' (first | exact Fr.refl _ _ | refine Fr.drew ?_))).mono ?_; rintro e w6 ⟨k6, N6, A6, n6, c6, rfl, hna, hf6⟩; have F6 : Fr (fun _ => False) w5 w6 := Fr.trans' (by repeat' (first | exact Fr.refl _ _ | refine Fr.drew ?_)) hf6; have x6 := cell_fr F6 x5; have t0 := cell_fr F6 s0; have t1 := cell_fr F6 s1; have t2 := cell_fr F6 s2; have HN2 := Lib.hid (fun w7 (h7 : Fr (fun _ => False) w6 w7) => HNB.out w7 _ _ (F6.trans' h7) (TBt.fr h7 (fun _ _ h => h) hna)))
         | (go_simp; go_at_call 12; refine (HN2.out _ (by repeat' (first | exact Fr.refl _ _ | refine Fr.drew ?_))).mono ?_; rintro e w7 ⟨rfl, hf7⟩; have F7 : Fr (fun _ => False) w6 w7 := Fr.trans' (by repeat' (first | exact Fr.refl _ _ | refine Fr.drew ?_)) hf7))
        all_goals
         have HF9 := Lib.hid ((HF5.out.trans' F6).trans' F7)
         clear x6 t0 t1 t2 s0 s1 s2 x5 y5 p7 p8 p9 hf6 hf7 hna
         go_wp2_with fail
         go_ret
         exact IsB.mk HF9.out
      · have hpb : pv.toList.isEmpty = false := by
         cases h : pv.toList.isEmpty with
         | false => rfl
         | true => exact absurd (bytes_inj.1 ((List.isEmpty_iff.1 h).trans (show [] = (⟨#[]⟩ : ByteArray).toList by decide +kernel))) hpe
        clear hpath hn1
        go_wp2_with fail
        go_ret
        exact IsB.mk HF2.out
    · have hnb : ((n : Int) == 1) = false := by simpa using (by omega : ¬ (n : Int) = 1)
      clear hn1
      go_wp2_with fail
      go_ret
      exact IsB.mk HF2.out

end Go.Proofs.YtagchljgmjmlcaaGreatDoor
