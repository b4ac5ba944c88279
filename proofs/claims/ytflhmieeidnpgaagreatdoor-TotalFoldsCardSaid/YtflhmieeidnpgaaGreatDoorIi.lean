/- The document's Fold: walked. -/
import Derived.Test.YtflhmieeidnpgaaGreatDoorIh
import Derived.Deep.CutBlock
import Derived.Deep.RegionLawGrows
import Derived.Deep.Cut
import Derived.Deep.CutRange
import Derived.WalkKit
import Derived.WalkLawsBesides
import Derived.WalkSpells
import Derived.Deep.QuietTactic
import Derived.BigRegion
import Derived.BigQuiet
import Derived.Lib.Hide
import Derived.Outline
import Derived.Deep.AppendLies
import Derived.Deep.RegionLaw
import Derived.Deep.RegionWith
import Derived.Deep.RegionHeld3
import Derived.Deep.LoopGhost
import Derived.Deep.DeepFit
import Derived.Laws.ResultCell
import Derived.Laws.RangeAny
import Derived.Deep.MidRow
import Derived.StillTailTactics
import Derived.OpenShut
import Derived.IntWalk
namespace Go.Proofs.YtflhmieeidnpgaaGreatDoor
set_option linter.unusedVariables false
open Go.RowKit Go


/-- Terms of the document's, in memory. -/
def tcells : List DT → List Value
  | [] => []
  | t :: ts => .int .i64 t.kind :: .string t.text :: .string t.type :: .string t.lang :: tcells ts
theorem tcells_length : ∀ ts : List DT, (tcells ts).length = ts.length * 4
  | [] => rfl
  | t :: ts => by simp only [tcells, List.length_cons, tcells_length ts]; omega
theorem tcells_append : ∀ ts us : List DT, tcells (ts ++ us) = tcells ts ++ tcells us
  | [], us => rfl
  | t :: ts, us => by simp only [tcells, List.cons_append, tcells_append ts us]
theorem tcells_at : ∀ (ts : List DT) (k : Nat) (h : k < ts.length), (tcells ts)[k * 4]? = some (.int .i64 (ts.getD k dt0).kind) ∧ (tcells ts)[k * 4 + 1]? = some (.string (ts.getD k dt0).text) ∧ (tcells ts)[k * 4 + 2]? = some (.string (ts.getD k dt0).type) ∧ (tcells ts)[k * 4 + 3]? = some (.string (ts.getD k dt0).lang)
  | [], k, h => absurd h (Nat.not_lt_zero _)
  | t :: ts, 0, h => ⟨rfl, rfl, rfl, rfl⟩
  | t :: ts, k + 1, h => by
    have h2 := tcells_at ts k (by simpa using h)
    rw [show (k + 1) * 4 = k * 4 + 1 + 1 + 1 + 1 by omega, show k * 4 + 1 + 1 + 1 + 1 + 1 = (k * 4 + 1) + 1 + 1 + 1 + 1 by omega, show k * 4 + 1 + 1 + 1 + 1 + 2 = (k * 4 + 2) + 1 + 1 + 1 + 1 by omega, show k * 4 + 1 + 1 + 1 + 1 + 3 = (k * 4 + 3) + 1 + 1 + 1 + 1 by omega]
    exact h2
theorem info41 : (Tryz.prog.info? 41).map (fun i => (i.zero, i.size, i.bytes)) = some (some (.agg #[.int .i64 0, .string ⟨#[]⟩, .string ⟨#[]⟩, .string ⟨#[]⟩]), 4, 56) := by kernel_rfl
/-- A list of the document's terms. -/
def TRow (w : World) (B : Nat) (v : Value) (l : List DT) : Prop := w.ownsRow B 41 4 v l.length (tcells l)
theorem TRow.nil (w : World) (B : Nat) : TRow w B (.slice none 0 0) [] := World.ownsRow_nil _ _ _ _
theorem TRow.fr {w w' : World} {B : Nat} {v : Value} {l : List DT} (h : TRow w B v l) (hf : Fr (fun _ => False) w w') : TRow w' B v l := ownsRow_fr h hf (fun _ _ h => h)
theorem TRow.at_ {w : World} {B n c : Nat} {A : Option Addr} {l : List DT} (h : TRow w B (.slice A n c) l) (hn : l.length = n) (i : Nat) (hi : i < n) : ∃ g, A = some ⟨g, 0, none⟩ ∧
    w.cell? ⟨g, i * 4, none⟩ = some (.int .i64 (l.getD i dt0).kind) ∧ w.cell? ⟨g, i * 4 + 1, none⟩ = some (.string (l.getD i dt0).text) ∧ w.cell? ⟨g, i * 4 + 2, none⟩ = some (.string (l.getD i dt0).type) ∧ w.cell? ⟨g, i * 4 + 3, none⟩ = some (.string (l.getD i dt0).lang) := by
  unfold TRow at h
  rw [hn] at h
  obtain ⟨g, rfl, _, _, _⟩ := row_form h (by omega)
  have ht := tcells_at l i (by omega)
  refine ⟨g, rfl, ?_, ?_, ?_, ?_⟩
  · rw [World.ownsRow.cellAt h (i * 4) (by omega)]
    exact ht.1
  · rw [World.ownsRow.cellAt h (i * 4 + 1) (by omega)]
    exact ht.2.1
  · rw [World.ownsRow.cellAt h (i * 4 + 2) (by omega)]
    exact ht.2.2.1
  · rw [World.ownsRow.cellAt h (i * 4 + 3) (by omega)]
    exact ht.2.2.2
theorem dTerms_some {refs : List (List BD)} {v : ByteArray} {i : Nat} {t : DT} (h : getB (refs.getD i []) v (refs.getD i []).length = some t) : dTerms refs v (i + 1) = dTerms refs v i ++ [t] := by
  rw [dTerms, h]
theorem dTerms_none {refs : List (List BD)} {v : ByteArray} {i : Nat} (h : getB (refs.getD i []) v (refs.getD i []).length = none) : dTerms refs v (i + 1) = dTerms refs v i := by
  rw [dTerms, h]

/-- The sum of the integers of the first terms, the document's. -/
def dSum (l : List DT) : Nat → Int
  | 0 => 0
  | j + 1 => dSum l j + (asIntD (l.getD j dt0)).1
/-- Are the first terms integers? -/
def dAll (l : List DT) : Nat → Bool
  | 0 => true
  | j + 1 => dAll l j && ((asIntD (l.getD j dt0)).2 == 0)
theorem dAll_off (l : List DT) (j : Nat) (h : dAll l j = false) : ∀ k, dAll l (j + k) = false
  | 0 => h
  | k + 1 => by
    rw [← Nat.add_assoc, dAll, dAll_off l j h k]
    rfl
def dsumO (l : List DT) : Option DT := if dAll l l.length = true ∧ (-9223372036854775808 ≤ dSum l l.length ∧ dSum l l.length ≤ 9223372036854775807) then some (intD (dSum l l.length)) else none
theorem asIntD_bd (x : DT) : -9223372036854775808 ≤ (asIntD x).1 ∧ (asIntD x).1 ≤ 9223372036854775807 := by
  unfold asIntD
  split
  · exact vParse_bd _
  · exact ⟨by decide, by decide⟩
theorem dSum_bd (l : List DT) : ∀ j : Nat, -(9223372036854775808 * (j : Int)) ≤ dSum l j ∧ dSum l j ≤ 9223372036854775808 * (j : Int)
  | 0 => by
    show -(9223372036854775808 * ((0 : Nat) : Int)) ≤ 0 ∧ (0 : Int) ≤ 9223372036854775808 * ((0 : Nat) : Int)
    omega
  | j + 1 => by
    have h1 := dSum_bd l j
    have h2 := asIntD_bd (l.getD j dt0)
    unfold dSum
    omega
theorem big_len {n : Int} (h1 : -922337203685477580800 ≤ n) (h2 : n ≤ 922337203685477580800) : (digs n.natAbs).length ≤ 1000 := Nat.le_trans (digs_len 30 n.natAbs (by omega)) (by decide)

def dpickO (p : DT → DT → Bool) (l : List DT) : Option DT := if l.length = 0 then none else some (dPick p l l.length)
theorem dPick_step (p : DT → DT → Bool) (l : List DT) (i : Nat) : dPick p l (i + 1) = if p (l.getD i dt0) (dPick p l i) = true then l.getD i dt0 else dPick p l i := rfl

set_option maxRecDepth 100000 in
set_option maxHeartbeats 4000000 in
theorem dfoldA_any (B : Nat) (v0 f : ByteArray) (vr : Value) (vals : List Value) (refs : List (List BD)) (w : World) (hn : refs.length ≤ 100) (hr : RefsAt w B vr vals refs) :
    Calls Tryz.prog 9 #[.agg #[.string v0, .string f, .string ⟨#[42]⟩], vr] w (GetPost (some (intD refs.length)) w) := by
  obtain ⟨A0, c0, rfl⟩ := row_shape hr.own
  obtain ⟨n, hnn⟩ : ∃ n, refs.length = n := ⟨_, rfl⟩
  rw [hnn] at hn ⊢
  have hZ := Blk.new (w.alloc (.cells #[.string v0, .string f, .string ⟨#[42]⟩] 35)) 41 #[.int .i64 0, .string ⟨#[]⟩, .string ⟨#[]⟩, .string ⟨#[]⟩]
  rw [show (w.alloc (.cells #[.string v0, .string f, .string ⟨#[42]⟩] 35)).heap.size = w.heap.size + 1 by simp] at hZ
  have HZR := Lib.hid hZ
  have HF := Lib.hid (((Fr.refl (fun _ => False) w).alloc (.cells #[.string v0, .string f, .string ⟨#[42]⟩] 35)).alloc (.cells #[.int .i64 0, .string ⟨#[]⟩, .string ⟨#[]⟩, .string ⟨#[]⟩] 41))
  clear hr hnn hZ
  go_enter Tryz.func9, Tryz.ntmps9
  go_wp2_with fail
  with_reducible refine (dof_any (n : Int) (by omega) (by omega) _).mono ?_
  rintro e w1 ⟨v1, rfl, hb1, hf1⟩
  obtain ⟨A5, c5, rfl, hr5⟩ := hb1.open_
  have HB1 := Lib.hid hb1
  have HF1 := Lib.hid hf1
  have HLN := Lib.hid (digs_len 20 (n : Int).natAbs (by omega))
  clear hf1 hr5 hb1
  have HI := Lib.hid (integer_any _ _ (n : Int) w1 (Nat.le_trans HLN.out (by decide)) HB1.out)
  unfold intD DT.cells at HI
  dsimp only at HI
  generalize decide ((n : Int) < 0) = zb at *
  generalize (digs ((n : Int)).natAbs).length = zn at *
  have HIS := Lib.hid (show (intD (n : Int)).cells = #[.int .i64 2, .string ⟨(Lib.itoa (n : Int)).toArray⟩, .string xInt, .string ⟨#[]⟩] from rfl)
  generalize (⟨(Lib.itoa (n : Int)).toArray⟩ : ByteArray) = is at *
  generalize xInt = xi at *
  go_wp2_with fail
  with_reducible refine HI.out.mono ?_
  rintro e w9 ⟨rfl, hf9⟩
  have hz9 := HZR.out.fr (HF1.out.trans' hf9) (fun h => h)
  have HZ9 := Lib.hid hz9
  have HF9 := Lib.hid ((HF.out.trans' HF1.out).trans' hf9)
  have p0 := hz9.cell 0
  have p1 := hz9.cell 1
  have p2 := hz9.cell 2
  have p3 := hz9.cell 3
  have q0 := hz9.frozen 0
  have q1 := hz9.frozen 1
  have q2 := hz9.frozen 2
  have q3 := hz9.frozen 3
  simp only [List.getElem?_toArray, List.getElem?_cons_zero, List.getElem?_cons_succ] at p0 p1 p2 p3
  clear hz9 hf9
  go_wp2_with fail
  unfold GetPost
  dsimp only
  rw [HIS.out]
  exact bodyPost_ret (v := .tuple #[.agg #[.int .i64 2, .string is, .string xi, .string ⟨#[]⟩], .bool true]) (results_c2 rfl _ _ (w.heap.size + 1) 41 _ (0, 0) _ rfl (show Blk _ (w.heap.size + 1) 41 #[.int .i64 2, .string is, .string xi, .string ⟨#[]⟩] from ((((HZ9.out.set_ 0 (.int .i64 2)).set_ 1 (.string is)).set_ 2 (.string xi)).set_ 3 (.string ⟨#[]⟩))) Tryz.underlying41 rfl (by kernel_rfl) _ rfl) rfl ⟨((((HF9.out.setCell ⟨w.heap.size + 1, 0, none⟩ (fun h => absurd h (by simp)) (.int .i64 2)).setCell ⟨w.heap.size + 1, 1, none⟩ (fun h => absurd h (by simp)) (.string is)).setCell ⟨w.heap.size + 1, 2, none⟩ (fun h => absurd h (by simp)) (.string xi)).setCell ⟨w.heap.size + 1, 3, none⟩ (fun h => absurd h (by simp)) (.string ⟨#[]⟩)), rfl⟩
set_option maxRecDepth 100000 in
set_option maxHeartbeats 4000000 in
theorem dfoldC_any (B : Nat) (v0 v : ByteArray) (vr : Value) (vals : List Value) (refs : List (List BD)) (w : World) (hv : (v.toList == [42]) = false) (hn : refs.length ≤ 100) (hb : ∀ i, i < refs.length → (refs.getD i []).length ≤ 100) (hr : RefsAt w B vr vals refs) :
    Calls Tryz.prog 9 #[.agg #[.string v0, .string ⟨#[67, 79, 85, 78, 84]⟩, .string v], vr] w (GetPost (some (intD (dTerms refs v refs.length).length)) w) := by
  obtain ⟨A0, c0, rfl⟩ := row_shape hr.own
  obtain ⟨i41, hi41, hz410, hz411, hz412⟩ := info_parts info41
  have HR := Lib.hid hr
  have HB := Lib.hid hb
  have HDL := Lib.hid (dTerms_le refs v)
  obtain ⟨dl, hdle⟩ : ∃ dl, dTerms refs v refs.length = dl := ⟨_, rfl⟩
  rw [hdle]
  have hdln : dl.length ≤ refs.length := by rw [← hdle]; exact dTerms_le refs v _
  have HDLE := Lib.hid hdle
  clear hdle
  obtain ⟨n, hnn⟩ : ∃ n, refs.length = n := ⟨_, rfl⟩
  have HN := Lib.hid hnn
  rw [hnn] at hn hdln ⊢
  obtain ⟨m, hm⟩ : ∃ m, dl.length = m := ⟨_, rfl⟩
  rw [hm] at hdln
  try rw [hm]
  have HM := Lib.hid hm
  clear hm
  have hBX := (Blk.new w 35 #[.string v0, .string ⟨#[67, 79, 85, 78, 84]⟩, .string v]).alloc (.cells #[.int .i64 0, .string ⟨#[]⟩, .string ⟨#[]⟩, .string ⟨#[]⟩] 41)
  have hZ := Blk.new (w.alloc (.cells #[.string v0, .string ⟨#[67, 79, 85, 78, 84]⟩, .string v] 35)) 41 #[.int .i64 0, .string ⟨#[]⟩, .string ⟨#[]⟩, .string ⟨#[]⟩]
  rw [show (w.alloc (.cells #[.string v0, .string ⟨#[67, 79, 85, 78, 84]⟩, .string v] 35)).heap.size = w.heap.size + 1 by simp] at hZ
  have HBX := Lib.hid hBX
  have HZ := Lib.hid hZ
  have hv2 : (v.toList != [42]) = true := by rw [bne, hv]; rfl
  clear hr hb hnn hBX hZ
  go_enter Tryz.func9, Tryz.ntmps9
  go_wp2_with fail
  go_loopw [6, 25] (fun lv iv wr => ∃ (i : Nat), iv = .int .i64 (i : Int) ∧ i ≤ n ∧ TRow wr (w.heap.size + 2) lv (dTerms refs v i) ∧ Blk wr w.heap.size 35 #[.string v0, .string ⟨#[67, 79, 85, 78, 84]⟩, .string v] ∧ Blk wr (w.heap.size + 1) 41 #[.int .i64 0, .string ⟨#[]⟩, .string ⟨#[]⟩, .string ⟨#[]⟩] ∧ Fr (fun _ => False) w wr ∧ w.heap.size + 2 ≤ wr.heap.size) (fun _ iv _ => n - (intOf iv).toNat)
  case atStart => exact ⟨0, rfl, Nat.zero_le _, TRow.nil _ _, HBX.out, HZ.out, ((Fr.refl _ _).alloc _).alloc _, by simp⟩
  case round =>
    obtain ⟨i, rfl, hi, hrow, hbx, hz, hf, hsz⟩ := hrel
    have HROW := Lib.hid hrow
    have HX := Lib.hid hbx
    have HZR := Lib.hid hz
    have HF := Lib.hid hf
    have x1 : wr.cell? ⟨w.heap.size, 1, none⟩ = some (.string ⟨#[67, 79, 85, 78, 84]⟩) := hbx.cell 1
    have x2 : wr.cell? ⟨w.heap.size, 2, none⟩ = some (.string v) := hbx.cell 2
    obtain ⟨Al, cl, rfl⟩ := row_shape hrow
    have hdl := HDL.out i
    by_cases hlt : i < n
    · have hlt' : decide (i < n) = true := by simpa using hlt
      have hrr := HR.out.frF hf
      have hown := hrr.own
      rw [HN.out] at hown
      obtain ⟨ga, rfl, _, _, _⟩ := row_form hown (by omega)
      have hck : wr.cell? ⟨ga, i, none⟩ = some (vals.getD i undef) := by
        rw [World.ownsRow.cellAt hown i (by omega), List.getD_eq_getElem?_getD, List.getElem?_eq_getElem (by have := hrr.len; rw [HN.out] at this; omega)]; rfl
      have hgl := (hown.lt ga rfl).2
      have HGET := Lib.hid (fun wy (hf : Fr (fun _ => False) wr wy) => get_any B (refs.getD i []) (vals.getD i undef) v wy (HB.out i (by rw [HN.out]; exact hlt)) ((hrr.frF hf).each i (by rw [HN.out]; exact hlt)))
      have hS := hown.1
      have HOWN := Lib.hid hown
      have HCK := Lib.hid (fun (w' : World) (hf : Fr (fun _ => False) wr w') => (⟨cell_fr hf hck, (hbx.fr hf (fun h => h)).cell 2⟩ : w'.cell? ⟨ga, i, none⟩ = some (vals.getD i undef) ∧ w'.cell? ⟨w.heap.size, 2, none⟩ = some (.string v)))
      clear hown hrr hS hrow hbx hz hf
      generalize vals.getD i undef = vi at *
      obtain ⟨o, ho⟩ : ∃ o, getB (refs.getD i []) v (refs.getD i []).length = o := ⟨_, rfl⟩
      have HO := Lib.hid ho
      rw [ho] at HGET
      clear ho
      have hgeb : w.heap.size < wr.heap.size := by omega
      go_upto_region 7 with (fail)
      go_cut [8, 9] from 28 to 37 (fun p q wx => ∃ g8 : Nat, p = .pointer (some ⟨g8, 0, none⟩) ∧ q = .bool o.isSome ∧ wr.heap.size ≤ g8 ∧ Blk wx g8 41 (o.getD dt0).cells ∧ Fr (fun _ => False) wr wx)
      case first =>
        cases o with
        | none =>
          unfold GetPost at HGET
          dsimp only at HGET
          go_region_held3 (fun w' => w'.cell? ⟨ga, i, none⟩ = some vi ∧ w'.cell? ⟨w.heap.size, 2, none⟩ = some (.string v))
            (first | exact HCK.out _ (F4 _ _ _ _) | exact HCK.out _ F1 | exact HCK.out _ (F1.alloc _) | exact HCK.out _ (Fr.refl (fun _ => False) wr).drew | exact HCK.out _ ((Fr.refl (fun _ => False) wr).alloc _).drew)
            (first
              | (go_at_call 32; refine (HGET.out _ ((Fr.refl (fun _ => False) wr).alloc _).drew).mono ?_; rintro e w1 ⟨hf1, rfl⟩; have F1 : Fr (fun _ => False) wr w1 := (((Fr.refl (fun _ => False) wr).alloc _).drew).trans' hf1; have hb8 : Blk w1 wr.heap.size 41 _ := ((Blk.new wr 41 #[.int .i64 0, .string ⟨#[]⟩, .string ⟨#[]⟩, .string ⟨#[]⟩]).drew).fr hf1 (fun h => h); have k0 := hb8.cell 0; have k1 := hb8.cell 1; have k2 := hb8.cell 2; have k3 := hb8.cell 3; have z0 := hb8.frozen 0; have z1 := hb8.frozen 1; have z2 := hb8.frozen 2; have z3 := hb8.frozen 3; simp only [List.getElem?_toArray, List.getElem?_cons_zero, List.getElem?_cons_succ] at k0 k1 k2 k3; have F4 : ∀ u0 u1 u2 u3, Fr (fun _ => False) wr ((((w1.setCell ⟨wr.heap.size, 0, none⟩ u0).setCell ⟨wr.heap.size, 1, none⟩ u1).setCell ⟨wr.heap.size, 2, none⟩ u2).setCell ⟨wr.heap.size, 3, none⟩ u3) := (fun u0 u1 u2 u3 => (((F1.setCell ⟨wr.heap.size, 0, none⟩ (fun h => absurd h (Nat.lt_irrefl _)) u0).setCell ⟨wr.heap.size, 1, none⟩ (fun h => absurd h (Nat.lt_irrefl _)) u1).setCell ⟨wr.heap.size, 2, none⟩ (fun h => absurd h (Nat.lt_irrefl _)) u2).setCell ⟨wr.heap.size, 3, none⟩ (fun h => absurd h (Nat.lt_irrefl _)) u3))
              | (go_at_call 32; refine (HGET.out _ (Fr.refl (fun _ => False) wr).drew).mono ?_; rintro e w1 ⟨hf1, rfl⟩; have F1 : Fr (fun _ => False) wr w1 := ((Fr.refl (fun _ => False) wr).drew).trans' hf1))
          all_goals
            go_wp2_with fail
            go_meet
            first
              | exact ⟨wr.heap.size, rfl, rfl, Nat.le_refl _, (((hb8.set_ 0 (.int .i64 0)).set_ 1 (.string ⟨#[]⟩)).set_ 2 (.string ⟨#[]⟩)).set_ 3 (.string ⟨#[]⟩), F4 _ _ _ _⟩
              | exact ⟨w1.heap.size, rfl, rfl, F1.size, Blk.new w1 41 #[.int .i64 0, .string ⟨#[]⟩, .string ⟨#[]⟩, .string ⟨#[]⟩], F1.alloc _⟩
        | some t =>
          obtain ⟨kt, tx, ty, tl⟩ := t
          unfold GetPost DT.cells at HGET
          dsimp only at HGET
          go_region_held3 (fun w' => w'.cell? ⟨ga, i, none⟩ = some vi ∧ w'.cell? ⟨w.heap.size, 2, none⟩ = some (.string v))
            (first | exact HCK.out _ (F4 _ _ _ _) | exact HCK.out _ F1 | exact HCK.out _ (F1.alloc _) | exact HCK.out _ (Fr.refl (fun _ => False) wr).drew | exact HCK.out _ ((Fr.refl (fun _ => False) wr).alloc _).drew)
            (first
              | (go_at_call 32; refine (HGET.out _ ((Fr.refl (fun _ => False) wr).alloc _).drew).mono ?_; rintro e w1 ⟨hf1, rfl⟩; have F1 : Fr (fun _ => False) wr w1 := (((Fr.refl (fun _ => False) wr).alloc _).drew).trans' hf1; have hb8 : Blk w1 wr.heap.size 41 _ := ((Blk.new wr 41 #[.int .i64 0, .string ⟨#[]⟩, .string ⟨#[]⟩, .string ⟨#[]⟩]).drew).fr hf1 (fun h => h); have k0 := hb8.cell 0; have k1 := hb8.cell 1; have k2 := hb8.cell 2; have k3 := hb8.cell 3; have z0 := hb8.frozen 0; have z1 := hb8.frozen 1; have z2 := hb8.frozen 2; have z3 := hb8.frozen 3; simp only [List.getElem?_toArray, List.getElem?_cons_zero, List.getElem?_cons_succ] at k0 k1 k2 k3; have F4 : ∀ u0 u1 u2 u3, Fr (fun _ => False) wr ((((w1.setCell ⟨wr.heap.size, 0, none⟩ u0).setCell ⟨wr.heap.size, 1, none⟩ u1).setCell ⟨wr.heap.size, 2, none⟩ u2).setCell ⟨wr.heap.size, 3, none⟩ u3) := (fun u0 u1 u2 u3 => (((F1.setCell ⟨wr.heap.size, 0, none⟩ (fun h => absurd h (Nat.lt_irrefl _)) u0).setCell ⟨wr.heap.size, 1, none⟩ (fun h => absurd h (Nat.lt_irrefl _)) u1).setCell ⟨wr.heap.size, 2, none⟩ (fun h => absurd h (Nat.lt_irrefl _)) u2).setCell ⟨wr.heap.size, 3, none⟩ (fun h => absurd h (Nat.lt_irrefl _)) u3))
              | (go_at_call 32; refine (HGET.out _ (Fr.refl (fun _ => False) wr).drew).mono ?_; rintro e w1 ⟨hf1, rfl⟩; have F1 : Fr (fun _ => False) wr w1 := ((Fr.refl (fun _ => False) wr).drew).trans' hf1))
          all_goals
            go_wp2_with fail
            go_meet
            first
              | exact ⟨wr.heap.size, rfl, rfl, Nat.le_refl _, (((hb8.set_ 0 (.int .i64 kt)).set_ 1 (.string tx)).set_ 2 (.string ty)).set_ 3 (.string tl), F4 _ _ _ _⟩
              | exact ⟨w1.heap.size, rfl, rfl, F1.size, Blk.new w1 41 #[.int .i64 kt, .string tx, .string ty, .string tl], F1.alloc _⟩
      case rest =>
        obtain ⟨g8, rfl, rfl, hg8, hb8, hf8⟩ := hcut
        have HF8 := Lib.hid hf8
        have HB8 := Lib.hid hb8
        have hs8 := hf8.size
        have hg8b := hb8.lt
        cases o with
        | none =>
          have HST := Lib.hid (dTerms_none HO.out)
          dsimp only [Option.isSome]
          clear hf8 hb8
          go_wp2_with fail
          go_roundw
          case rel => exact ⟨i + 1, by go_num, hlt, by rw [HST.out]; exact HROW.out.fr HF8.out, HX.out.fr HF8.out (fun h => h), HZR.out.fr HF8.out (fun h => h), HF.out.trans' HF8.out, by omega⟩
          case measure => simp only [intOf]; omega
        | some t =>
          have HST := Lib.hid (dTerms_some HO.out)
          obtain ⟨kt, tx, ty, tl⟩ := t
          dsimp only [Option.isSome, Option.getD, DT.cells] at hb8 ⊢
          have k0 := hb8.cell 0
          have k1 := hb8.cell 1
          have k2 := hb8.cell 2
          have k3 := hb8.cell 3
          simp only [List.getElem?_toArray, List.getElem?_cons_zero, List.getElem?_cons_succ] at k0 k1 k2 k3
          generalize hdn : (dTerms refs v i).length = m at *
          have HDN := Lib.hid hdn
          clear hdn hf8 hb8
          have HROW2 : Hid (wc.ownsRow (w.heap.size + 2) 41 4 (.slice Al m cl) m (tcells (dTerms refs v i))) := Lib.hid (by
            have h := HROW.out.fr HF8.out
            unfold TRow at h
            rw [HDN.out] at h
            exact h)
          go_wp2_with (at_builtin; refine wpList_append_own_at _ rfl _ _ 85 rfl (w.heap.size + 2) 41 i41 _ 4 56 Tryz.underlying85 hi41 hz410 hz411 hz412 rfl (by decide) _ m (tcells (dTerms refs v i)) (by rfl) (HROW2.out.alloc _) ⟨wc.heap.size, 0, none⟩ 1 1 [.int .i64 kt, .string tx, .string ty, .string tl] (by rfl) rfl (World.news_of_block (heap_alloc_new wc _)) (by intro u hu; simp only [List.mem_cons, List.not_mem_nil, or_false] at hu; rcases hu with rfl | rfl | rfl | rfl <;> rfl) (by unfold maxLen; omega) (by omega) (by simp; omega) ?_; intro v6 w6 hown6 hgr6 _ hat6; obtain ⟨A6, c6, hv6⟩ := row_shape hown6; subst hv6)
          have F6 : Fr (fun j => (Value.slice Al m cl).ownBlock = some j) wc w6 := ((Fr.refl _ _).alloc _).trans (Fr.of_grown hgr6) (fun _ _ h => h)
          have HX6 := Lib.hid ((HX.out.fr HF8.out (fun h => h)).fr F6 (fun h => absurd (HROW2.out.lt _ h).1 (by omega)))
          have HZ6 := Lib.hid ((HZR.out.fr HF8.out (fun h => h)).fr F6 (fun h => absurd (HROW2.out.lt _ h).1 (by omega)))
          have HF6 := Lib.hid ((HF.out.trans' HF8.out).trans F6 (fun j hj h => absurd (HROW2.out.lt j h).1 (by omega)))
          have hs6 := F6.size
          have HO6 : Hid (TRow w6 (w.heap.size + 2) (.slice A6 (m + 1) c6) (dTerms refs v i ++ [⟨kt, tx, ty, tl⟩])) := Lib.hid (by
            unfold TRow
            rw [List.length_append, HDN.out, tcells_append]
            exact hown6)
          clear hown6 hgr6 hat6 F6
          go_wp2_with fail
          go_roundw
          case rel => exact ⟨i + 1, by go_num, hlt, by rw [HST.out]; exact HO6.out, HX6.out, HZ6.out, HF6.out, by omega⟩
          case measure => simp only [intOf]; omega
    · have hlt' : decide (i < n) = false := by simpa using hlt
      have e : i = n := by omega
      have hdd : dTerms refs v i = dl := by rw [e, ← HN.out]; exact HDLE.out
      rw [hdd] at HROW hdl ⊢
      rw [HM.out] at HROW ⊢
      clear hdd e hrow hbx hz hf hdl
      go_wp2_with fail
      with_reducible refine (dof_any (m : Int) (by omega) (by omega) _).mono ?_
      rintro e w1 ⟨v1, rfl, hb1, hf1⟩
      obtain ⟨A5, c5, rfl, hr5⟩ := hb1.open_
      have HB1 := Lib.hid hb1
      have HF1 := Lib.hid hf1
      have HLN := Lib.hid (digs_len 20 (m : Int).natAbs (by omega))
      clear hf1 hr5 hb1
      have HI := Lib.hid (integer_any wr.heap.size _ (m : Int) w1 (Nat.le_trans HLN.out (by decide)) HB1.out)
      unfold intD DT.cells at HI
      dsimp only at HI
      generalize decide ((m : Int) < 0) = zb at *
      generalize (digs ((m : Int)).natAbs).length = zn at *
      have HIS := Lib.hid (show (intD (m : Int)).cells = #[.int .i64 2, .string ⟨(Lib.itoa (m : Int)).toArray⟩, .string xInt, .string ⟨#[]⟩] from rfl)
      generalize (⟨(Lib.itoa (m : Int)).toArray⟩ : ByteArray) = is at *
      generalize xInt = xi at *
      go_wp2_with fail
      with_reducible refine HI.out.mono ?_
      rintro e w9 ⟨rfl, hf9⟩
      have hz9 := HZR.out.fr (HF1.out.trans' hf9) (fun h => h)
      have HZ9 := Lib.hid hz9
      have HF9 := Lib.hid ((HF.out.trans' HF1.out).trans' hf9)
      have p0 := hz9.cell 0
      have p1 := hz9.cell 1
      have p2 := hz9.cell 2
      have p3 := hz9.cell 3
      have q0 := hz9.frozen 0
      have q1 := hz9.frozen 1
      have q2 := hz9.frozen 2
      have q3 := hz9.frozen 3
      simp only [List.getElem?_toArray, List.getElem?_cons_zero, List.getElem?_cons_succ] at p0 p1 p2 p3
      clear hz9 hf9
      go_wp2_with fail
      unfold GetPost
      dsimp only
      rw [HIS.out]
      exact bodyPost_ret (v := .tuple #[.agg #[.int .i64 2, .string is, .string xi, .string ⟨#[]⟩], .bool true]) (results_c2 rfl _ _ (w.heap.size + 1) 41 _ (0, 0) _ rfl (show Blk _ (w.heap.size + 1) 41 #[.int .i64 2, .string is, .string xi, .string ⟨#[]⟩] from ((((HZ9.out.set_ 0 (.int .i64 2)).set_ 1 (.string is)).set_ 2 (.string xi)).set_ 3 (.string ⟨#[]⟩))) Tryz.underlying41 rfl (by kernel_rfl) _ rfl) rfl ⟨((((HF9.out.setCell ⟨w.heap.size + 1, 0, none⟩ (fun h => absurd h (by simp)) (.int .i64 2)).setCell ⟨w.heap.size + 1, 1, none⟩ (fun h => absurd h (by simp)) (.string is)).setCell ⟨w.heap.size + 1, 2, none⟩ (fun h => absurd h (by simp)) (.string xi)).setCell ⟨w.heap.size + 1, 3, none⟩ (fun h => absurd h (by simp)) (.string ⟨#[]⟩)), rfl⟩
set_option maxRecDepth 100000 in
set_option maxHeartbeats 4000000 in
theorem dfoldS_any (B : Nat) (v0 v : ByteArray) (vr : Value) (vals : List Value) (refs : List (List BD)) (w : World) (hv : (v.toList == [42]) = false) (hn : refs.length ≤ 100) (hb : ∀ i, i < refs.length → (refs.getD i []).length ≤ 100) (hr : RefsAt w B vr vals refs) (hsh : ∀ t, t ∈ dTerms refs v refs.length → t.text.size ≤ 4096) :
    Calls Tryz.prog 9 #[.agg #[.string v0, .string ⟨#[83, 85, 77]⟩, .string v], vr] w (GetPost (dsumO (dTerms refs v refs.length)) w) := by
  obtain ⟨A0, c0, rfl⟩ := row_shape hr.own
  obtain ⟨i41, hi41, hz410, hz411, hz412⟩ := info_parts info41
  have HR := Lib.hid hr
  have HB := Lib.hid hb
  have HDL := Lib.hid (dTerms_le refs v)
  obtain ⟨dl, hdle⟩ : ∃ dl, dTerms refs v refs.length = dl := ⟨_, rfl⟩
  rw [hdle] at hsh ⊢
  have HSH := Lib.hid hsh
  clear hsh
  have hdln : dl.length ≤ refs.length := by rw [← hdle]; exact dTerms_le refs v _
  have HDLE := Lib.hid hdle
  clear hdle
  obtain ⟨n, hnn⟩ : ∃ n, refs.length = n := ⟨_, rfl⟩
  have HN := Lib.hid hnn
  rw [hnn] at hn hdln ⊢
  obtain ⟨m, hm⟩ : ∃ m, dl.length = m := ⟨_, rfl⟩
  rw [hm] at hdln
  try rw [hm]
  have HM := Lib.hid hm
  clear hm
  have hBX := (Blk.new w 35 #[.string v0, .string ⟨#[83, 85, 77]⟩, .string v]).alloc (.cells #[.int .i64 0, .string ⟨#[]⟩, .string ⟨#[]⟩, .string ⟨#[]⟩] 41)
  have hZ := Blk.new (w.alloc (.cells #[.string v0, .string ⟨#[83, 85, 77]⟩, .string v] 35)) 41 #[.int .i64 0, .string ⟨#[]⟩, .string ⟨#[]⟩, .string ⟨#[]⟩]
  rw [show (w.alloc (.cells #[.string v0, .string ⟨#[83, 85, 77]⟩, .string v] 35)).heap.size = w.heap.size + 1 by simp] at hZ
  have HBX := Lib.hid hBX
  have HZ := Lib.hid hZ
  have hv2 : (v.toList != [42]) = true := by rw [bne, hv]; rfl
  clear hr hb hnn hBX hZ
  go_enter Tryz.func9, Tryz.ntmps9
  go_wp2_with fail
  go_loopw [6, 25] (fun lv iv wr => ∃ (i : Nat), iv = .int .i64 (i : Int) ∧ i ≤ n ∧ TRow wr (w.heap.size + 2) lv (dTerms refs v i) ∧ Blk wr w.heap.size 35 #[.string v0, .string ⟨#[83, 85, 77]⟩, .string v] ∧ Blk wr (w.heap.size + 1) 41 #[.int .i64 0, .string ⟨#[]⟩, .string ⟨#[]⟩, .string ⟨#[]⟩] ∧ Fr (fun _ => False) w wr ∧ w.heap.size + 2 ≤ wr.heap.size) (fun _ iv _ => n - (intOf iv).toNat)
  case atStart => exact ⟨0, rfl, Nat.zero_le _, TRow.nil _ _, HBX.out, HZ.out, ((Fr.refl _ _).alloc _).alloc _, by simp⟩
  case round =>
    obtain ⟨i, rfl, hi, hrow, hbx, hz, hf, hsz⟩ := hrel
    have HROW := Lib.hid hrow
    have HX := Lib.hid hbx
    have HZR := Lib.hid hz
    have HF := Lib.hid hf
    have x1 : wr.cell? ⟨w.heap.size, 1, none⟩ = some (.string ⟨#[83, 85, 77]⟩) := hbx.cell 1
    have x2 : wr.cell? ⟨w.heap.size, 2, none⟩ = some (.string v) := hbx.cell 2
    obtain ⟨Al, cl, rfl⟩ := row_shape hrow
    have hdl := HDL.out i
    by_cases hlt : i < n
    · have hlt' : decide (i < n) = true := by simpa using hlt
      have hrr := HR.out.frF hf
      have hown := hrr.own
      rw [HN.out] at hown
      obtain ⟨ga, rfl, _, _, _⟩ := row_form hown (by omega)
      have hck : wr.cell? ⟨ga, i, none⟩ = some (vals.getD i undef) := by
        rw [World.ownsRow.cellAt hown i (by omega), List.getD_eq_getElem?_getD, List.getElem?_eq_getElem (by have := hrr.len; rw [HN.out] at this; omega)]; rfl
      have hgl := (hown.lt ga rfl).2
      have HGET := Lib.hid (fun wy (hf : Fr (fun _ => False) wr wy) => get_any B (refs.getD i []) (vals.getD i undef) v wy (HB.out i (by rw [HN.out]; exact hlt)) ((hrr.frF hf).each i (by rw [HN.out]; exact hlt)))
      have hS := hown.1
      have HOWN := Lib.hid hown
      have HCK := Lib.hid (fun (w' : World) (hf : Fr (fun _ => False) wr w') => (⟨cell_fr hf hck, (hbx.fr hf (fun h => h)).cell 2⟩ : w'.cell? ⟨ga, i, none⟩ = some (vals.getD i undef) ∧ w'.cell? ⟨w.heap.size, 2, none⟩ = some (.string v)))
      clear hown hrr hS hrow hbx hz hf
      generalize vals.getD i undef = vi at *
      obtain ⟨o, ho⟩ : ∃ o, getB (refs.getD i []) v (refs.getD i []).length = o := ⟨_, rfl⟩
      have HO := Lib.hid ho
      rw [ho] at HGET
      clear ho
      have hgeb : w.heap.size < wr.heap.size := by omega
      go_upto_region 7 with (fail)
      go_cut [8, 9] from 28 to 37 (fun p q wx => ∃ g8 : Nat, p = .pointer (some ⟨g8, 0, none⟩) ∧ q = .bool o.isSome ∧ wr.heap.size ≤ g8 ∧ Blk wx g8 41 (o.getD dt0).cells ∧ Fr (fun _ => False) wr wx)
      case first =>
        cases o with
        | none =>
          unfold GetPost at HGET
          dsimp only at HGET
          go_region_held3 (fun w' => w'.cell? ⟨ga, i, none⟩ = some vi ∧ w'.cell? ⟨w.heap.size, 2, none⟩ = some (.string v))
            (first | exact HCK.out _ (F4 _ _ _ _) | exact HCK.out _ F1 | exact HCK.out _ (F1.alloc _) | exact HCK.out _ (Fr.refl (fun _ => False) wr).drew | exact HCK.out _ ((Fr.refl (fun _ => False) wr).alloc _).drew)
            (first
              | (go_at_call 32; refine (HGET.out _ ((Fr.refl (fun _ => False) wr).alloc _).drew).mono ?_; rintro e w1 ⟨hf1, rfl⟩; have F1 : Fr (fun _ => False) wr w1 := (((Fr.refl (fun _ => False) wr).alloc _).drew).trans' hf1; have hb8 : Blk w1 wr.heap.size 41 _ := ((Blk.new wr 41 #[.int .i64 0, .string ⟨#[]⟩, .string ⟨#[]⟩, .string ⟨#[]⟩]).drew).fr hf1 (fun h => h); have k0 := hb8.cell 0; have k1 := hb8.cell 1; have k2 := hb8.cell 2; have k3 := hb8.cell 3; have z0 := hb8.frozen 0; have z1 := hb8.frozen 1; have z2 := hb8.frozen 2; have z3 := hb8.frozen 3; simp only [List.getElem?_toArray, List.getElem?_cons_zero, List.getElem?_cons_succ] at k0 k1 k2 k3; have F4 : ∀ u0 u1 u2 u3, Fr (fun _ => False) wr ((((w1.setCell ⟨wr.heap.size, 0, none⟩ u0).setCell ⟨wr.heap.size, 1, none⟩ u1).setCell ⟨wr.heap.size, 2, none⟩ u2).setCell ⟨wr.heap.size, 3, none⟩ u3) := (fun u0 u1 u2 u3 => (((F1.setCell ⟨wr.heap.size, 0, none⟩ (fun h => absurd h (Nat.lt_irrefl _)) u0).setCell ⟨wr.heap.size, 1, none⟩ (fun h => absurd h (Nat.lt_irrefl _)) u1).setCell ⟨wr.heap.size, 2, none⟩ (fun h => absurd h (Nat.lt_irrefl _)) u2).setCell ⟨wr.heap.size, 3, none⟩ (fun h => absurd h (Nat.lt_irrefl _)) u3))
              | (go_at_call 32; refine (HGET.out _ (Fr.refl (fun _ => False) wr).drew).mono ?_; rintro e w1 ⟨hf1, rfl⟩; have F1 : Fr (fun _ => False) wr w1 := ((Fr.refl (fun _ => False) wr).drew).trans' hf1))
          all_goals
            go_wp2_with fail
            go_meet
            first
              | exact ⟨wr.heap.size, rfl, rfl, Nat.le_refl _, (((hb8.set_ 0 (.int .i64 0)).set_ 1 (.string ⟨#[]⟩)).set_ 2 (.string ⟨#[]⟩)).set_ 3 (.string ⟨#[]⟩), F4 _ _ _ _⟩
              | exact ⟨w1.heap.size, rfl, rfl, F1.size, Blk.new w1 41 #[.int .i64 0, .string ⟨#[]⟩, .string ⟨#[]⟩, .string ⟨#[]⟩], F1.alloc _⟩
        | some t =>
          obtain ⟨kt, tx, ty, tl⟩ := t
          unfold GetPost DT.cells at HGET
          dsimp only at HGET
          go_region_held3 (fun w' => w'.cell? ⟨ga, i, none⟩ = some vi ∧ w'.cell? ⟨w.heap.size, 2, none⟩ = some (.string v))
            (first | exact HCK.out _ (F4 _ _ _ _) | exact HCK.out _ F1 | exact HCK.out _ (F1.alloc _) | exact HCK.out _ (Fr.refl (fun _ => False) wr).drew | exact HCK.out _ ((Fr.refl (fun _ => False) wr).alloc _).drew)
            (first
              | (go_at_call 32; refine (HGET.out _ ((Fr.refl (fun _ => False) wr).alloc _).drew).mono ?_; rintro e w1 ⟨hf1, rfl⟩; have F1 : Fr (fun _ => False) wr w1 := (((Fr.refl (fun _ => False) wr).alloc _).drew).trans' hf1; have hb8 : Blk w1 wr.heap.size 41 _ := ((Blk.new wr 41 #[.int .i64 0, .string ⟨#[]⟩, .string ⟨#[]⟩, .string ⟨#[]⟩]).drew).fr hf1 (fun h => h); have k0 := hb8.cell 0; have k1 := hb8.cell 1; have k2 := hb8.cell 2; have k3 := hb8.cell 3; have z0 := hb8.frozen 0; have z1 := hb8.frozen 1; have z2 := hb8.frozen 2; have z3 := hb8.frozen 3; simp only [List.getElem?_toArray, List.getElem?_cons_zero, List.getElem?_cons_succ] at k0 k1 k2 k3; have F4 : ∀ u0 u1 u2 u3, Fr (fun _ => False) wr ((((w1.setCell ⟨wr.heap.size, 0, none⟩ u0).setCell ⟨wr.heap.size, 1, none⟩ u1).setCell ⟨wr.heap.size, 2, none⟩ u2).setCell ⟨wr.heap.size, 3, none⟩ u3) := (fun u0 u1 u2 u3 => (((F1.setCell ⟨wr.heap.size, 0, none⟩ (fun h => absurd h (Nat.lt_irrefl _)) u0).setCell ⟨wr.heap.size, 1, none⟩ (fun h => absurd h (Nat.lt_irrefl _)) u1).setCell ⟨wr.heap.size, 2, none⟩ (fun h => absurd h (Nat.lt_irrefl _)) u2).setCell ⟨wr.heap.size, 3, none⟩ (fun h => absurd h (Nat.lt_irrefl _)) u3))
              | (go_at_call 32; refine (HGET.out _ (Fr.refl (fun _ => False) wr).drew).mono ?_; rintro e w1 ⟨hf1, rfl⟩; have F1 : Fr (fun _ => False) wr w1 := ((Fr.refl (fun _ => False) wr).drew).trans' hf1))
          all_goals
            go_wp2_with fail
            go_meet
            first
              | exact ⟨wr.heap.size, rfl, rfl, Nat.le_refl _, (((hb8.set_ 0 (.int .i64 kt)).set_ 1 (.string tx)).set_ 2 (.string ty)).set_ 3 (.string tl), F4 _ _ _ _⟩
              | exact ⟨w1.heap.size, rfl, rfl, F1.size, Blk.new w1 41 #[.int .i64 kt, .string tx, .string ty, .string tl], F1.alloc _⟩
      case rest =>
        obtain ⟨g8, rfl, rfl, hg8, hb8, hf8⟩ := hcut
        have HF8 := Lib.hid hf8
        have HB8 := Lib.hid hb8
        have hs8 := hf8.size
        have hg8b := hb8.lt
        cases o with
        | none =>
          have HST := Lib.hid (dTerms_none HO.out)
          dsimp only [Option.isSome]
          clear hf8 hb8
          go_wp2_with fail
          go_roundw
          case rel => exact ⟨i + 1, by go_num, hlt, by rw [HST.out]; exact HROW.out.fr HF8.out, HX.out.fr HF8.out (fun h => h), HZR.out.fr HF8.out (fun h => h), HF.out.trans' HF8.out, by omega⟩
          case measure => simp only [intOf]; omega
        | some t =>
          have HST := Lib.hid (dTerms_some HO.out)
          obtain ⟨kt, tx, ty, tl⟩ := t
          dsimp only [Option.isSome, Option.getD, DT.cells] at hb8 ⊢
          have k0 := hb8.cell 0
          have k1 := hb8.cell 1
          have k2 := hb8.cell 2
          have k3 := hb8.cell 3
          simp only [List.getElem?_toArray, List.getElem?_cons_zero, List.getElem?_cons_succ] at k0 k1 k2 k3
          generalize hdn : (dTerms refs v i).length = m at *
          have HDN := Lib.hid hdn
          clear hdn hf8 hb8
          have HROW2 : Hid (wc.ownsRow (w.heap.size + 2) 41 4 (.slice Al m cl) m (tcells (dTerms refs v i))) := Lib.hid (by
            have h := HROW.out.fr HF8.out
            unfold TRow at h
            rw [HDN.out] at h
            exact h)
          go_wp2_with (at_builtin; refine wpList_append_own_at _ rfl _ _ 85 rfl (w.heap.size + 2) 41 i41 _ 4 56 Tryz.underlying85 hi41 hz410 hz411 hz412 rfl (by decide) _ m (tcells (dTerms refs v i)) (by rfl) (HROW2.out.alloc _) ⟨wc.heap.size, 0, none⟩ 1 1 [.int .i64 kt, .string tx, .string ty, .string tl] (by rfl) rfl (World.news_of_block (heap_alloc_new wc _)) (by intro u hu; simp only [List.mem_cons, List.not_mem_nil, or_false] at hu; rcases hu with rfl | rfl | rfl | rfl <;> rfl) (by unfold maxLen; omega) (by omega) (by simp; omega) ?_; intro v6 w6 hown6 hgr6 _ hat6; obtain ⟨A6, c6, hv6⟩ := row_shape hown6; subst hv6)
          have F6 : Fr (fun j => (Value.slice Al m cl).ownBlock = some j) wc w6 := ((Fr.refl _ _).alloc _).trans (Fr.of_grown hgr6) (fun _ _ h => h)
          have HX6 := Lib.hid ((HX.out.fr HF8.out (fun h => h)).fr F6 (fun h => absurd (HROW2.out.lt _ h).1 (by omega)))
          have HZ6 := Lib.hid ((HZR.out.fr HF8.out (fun h => h)).fr F6 (fun h => absurd (HROW2.out.lt _ h).1 (by omega)))
          have HF6 := Lib.hid ((HF.out.trans' HF8.out).trans F6 (fun j hj h => absurd (HROW2.out.lt j h).1 (by omega)))
          have hs6 := F6.size
          have HO6 : Hid (TRow w6 (w.heap.size + 2) (.slice A6 (m + 1) c6) (dTerms refs v i ++ [⟨kt, tx, ty, tl⟩])) := Lib.hid (by
            unfold TRow
            rw [List.length_append, HDN.out, tcells_append]
            exact hown6)
          clear hown6 hgr6 hat6 F6
          go_wp2_with fail
          go_roundw
          case rel => exact ⟨i + 1, by go_num, hlt, by rw [HST.out]; exact HO6.out, HX6.out, HZ6.out, HF6.out, by omega⟩
          case measure => simp only [intOf]; omega
    · have hlt' : decide (i < n) = false := by simpa using hlt
      have e : i = n := by omega
      have hdd : dTerms refs v i = dl := by rw [e, ← HN.out]; exact HDLE.out
      rw [hdd] at HROW hdl ⊢
      rw [HM.out] at HROW ⊢
      clear hdd e hrow hbx hz hf hdl
      obtain ⟨wo, rfl⟩ : ∃ wo, wo = wr := ⟨wr, rfl⟩
      have HBIG0 := Lib.hid (Blk.new wo 83 #[.bool false, .slice none 0 0])
      go_wp2_with fail
      go_loopw [57] (fun jv wr => ∃ (j : Nat) (A : Option Addr) (c : Nat), jv = .int .i64 (j : Int) ∧ j ≤ m ∧ Blk wr wo.heap.size 83 #[.bool (decide (dSum dl j < 0)), .slice A (digs (dSum dl j).natAbs).length c] ∧ DRow wr (wo.heap.size + 1) (.slice A (digs (dSum dl j).natAbs).length c) (digs (dSum dl j).natAbs) ∧ Fr (fun _ => False) wo wr ∧ dAll dl j = true ∧ wo.heap.size + 1 ≤ wr.heap.size) (fun jv _ => m - (intOf jv).toNat)
      case atStart => exact ⟨0, none, 0, rfl, Nat.zero_le _, by rw [show digs (dSum dl 0).natAbs = [] from digs_zero]; exact HBIG0.out, by rw [show digs (dSum dl 0).natAbs = [] from digs_zero]; exact DRow.nil _ _, (Fr.refl _ _).alloc _, rfl, by simp⟩
      case round =>
        obtain ⟨j, A, c, rfl, hj, hbl, hrow, hfq, hall, hszq⟩ := hrel
        have HBL := Lib.hid hbl
        have HRW := Lib.hid hrow
        have HFQ := Lib.hid hfq
        have HALL := Lib.hid hall
        have hbd := dSum_bd dl j
        have hzq := HZR.out.fr hfq (fun h => h)
        have HZQ := Lib.hid hzq
        have HFW := Lib.hid (HF.out.trans' hfq)
        clear hrow hfq hall
        by_cases hjm : j < m
        · have hjm' : decide (j < m) = true := by simpa using hjm
          obtain ⟨gl, rfl, e0, e1, e2, e3⟩ := (HROW.out.fr HFQ.out).at_ HM.out j hjm
          have hsh : (dl.getD j dt0).text.size ≤ 4096 := HSH.out _ (by
            rw [List.getD_eq_getElem?_getD, List.getElem?_eq_getElem (by rw [HM.out]; exact hjm)]
            exact List.getElem_mem _)
          have HSN := Lib.hid (show dSum dl (j + 1) = dSum dl j + (asIntD (dl.getD j dt0)).1 from rfl)
          have HAN := Lib.hid (show dAll dl (j + 1) = (dAll dl j && ((asIntD (dl.getD j dt0)).2 == 0)) from rfl)
          have hxb := asIntD_bd (dl.getD j dt0)
          have HAS := Lib.hid (fun wy => dasInt_any (dl.getD j dt0) hsh wy)
          obtain ⟨xx, hxx⟩ : ∃ xx, dl.getD j dt0 = xx := ⟨_, rfl⟩
          rw [hxx] at e0 e1 e2 e3 HSN HAN hxb HAS
          clear hsh hxx
          obtain ⟨an, ae, hai⟩ : ∃ an ae, asIntD xx = (an, ae) := ⟨_, _, rfl⟩
          rw [hai] at HSN HAN hxb HAS
          obtain ⟨kt, tx, ty, tl⟩ := xx
          unfold DT.cells at HAS
          dsimp only at e0 e1 e2 e3 HSN HAN hxb HAS
          clear hai
          have hb0 := hbl.cell 0
          have hb1 := hbl.cell 1
          simp only [List.getElem?_toArray, List.getElem?_cons_zero, List.getElem?_cons_succ] at hb0 hb1
          have HADD := Lib.hid (fun wy y B2 (hf : Fr (fun _ => False) wr wy) hbl2 => dadd_any (wo.heap.size + 1) B2 (.agg #[.bool (decide (dSum dl j < 0)), .slice A (digs (dSum dl j).natAbs).length c]) y (dSum dl j) an wy (big_len (by omega) (by omega)) (big_len (by omega) (by omega)) ⟨A, c, rfl, HRW.out.fr hf⟩ hbl2)
          generalize dSum dl j = S at *
          generalize (digs S.natAbs).length = sn at *
          generalize decide (S < 0) = sb at *
          clear hbl
          by_cases hae : ae = 0
          · subst hae
            go_wp2_with fail
            with_reducible refine (HAS.out _).mono ?_
            rintro e w1 ⟨x1, rfl, hbig, hf1⟩
            have HBG := Lib.hid hbig
            obtain ⟨A5, c5, rfl, hr5⟩ := hbig.open_
            have hbl1 := HBL.out.fr hf1 (fun h => h)
            have HBL1 := Lib.hid hbl1
            have HF1 := Lib.hid hf1
            have hs1 := hf1.size
            have u0 := hbl1.cell 0
            have u1 := hbl1.cell 1
            simp only [List.getElem?_toArray, List.getElem?_cons_zero, List.getElem?_cons_succ] at u0 u1
            have hlt1 := hbl1.lt
            have HAD := Lib.hid (fun wy (hf : Fr (fun _ => False) w1 wy) => HADD.out wy _ _ (HF1.out.trans' hf) (HBG.out.fr hf))
            generalize (digs an.natAbs).length = ann at *
            generalize decide (an < 0) = anb at *
            clear hbl1 hf1 hbig hr5
            go_wp2_with fail
            with_reducible refine (HAD.out _ ((Fr.refl (fun _ => False) w1).alloc _)).mono ?_
            rintro e w2 ⟨v2, rfl, hb2, hf2⟩
            obtain ⟨A6, c6, rfl, hr6⟩ := hb2.open_
            have FF := ((Fr.refl (fun _ => False) w1).alloc (.cells #[.bool anb, .slice A5 ann c5] 83)).trans' hf2
            have hbl2 := HBL1.out.fr FF (fun h => h)
            have HBL2 := Lib.hid hbl2
            have HR6 : Hid (DRow w2 (wo.heap.size + 1) (.slice A6 (digs (S + an).natAbs).length c6) (digs (S + an).natAbs)) := Lib.hid (ownsRow_base hr6 (by simp; omega))
            have HF2 := Lib.hid ((HFQ.out.trans' HF1.out).trans' FF)
            have hs2 := FF.size
            have t0 := hbl2.cell 0
            have t1 := hbl2.cell 1
            have y0 := hbl2.frozen 0
            have y1 := hbl2.frozen 1
            simp only [List.getElem?_toArray, List.getElem?_cons_zero, List.getElem?_cons_succ] at t0 t1
            rw [← HSN.out] at HR6 ⊢
            generalize hgd : digs (dSum dl (j + 1)).natAbs = gd at *
            generalize hgb : decide (dSum dl (j + 1) < 0) = gb at *
            have HGD := Lib.hid hgd
            have HGB := Lib.hid hgb
            clear hbl2 FF hf2 hb2 hr6 u0 u1 hgd hgb
            go_wp2_with fail
            go_roundw
            case rel => exact ⟨j + 1, A6, c6, by go_num, hjm, by rw [HGD.out, HGB.out]; exact (HBL2.out.set_ 0 _).set_ 1 _, by rw [HGD.out]; exact ownsRow_set (ownsRow_set HR6.out wo.heap.size 0 (by omega) _) wo.heap.size 1 (by omega) _, (HF2.out.setCell ⟨wo.heap.size, 0, none⟩ (fun h => absurd h (Nat.lt_irrefl _)) _).setCell ⟨wo.heap.size, 1, none⟩ (fun h => absurd h (Nat.lt_irrefl _)) _, by rw [HAN.out, HALL.out]; rfl, by simp [World.setCell]; omega⟩
            case measure => simp only [intOf]; omega
          · have hae' : (ae != 0) = true := by simp [hae]
            have HNO : Hid (dsumO dl = none) := Lib.hid (by
              unfold dsumO
              rw [if_neg]
              intro h
              have h2 := dAll_off dl (j + 1) (by rw [HAN.out]; simp [hae]) (dl.length - (j + 1))
              rw [show j + 1 + (dl.length - (j + 1)) = dl.length by rw [HM.out]; omega, h.1] at h2
              cases h2)
            go_wp2_with fail
            with_reducible refine (HAS.out _).mono ?_
            rintro e w1 ⟨x1, rfl, hbig, hf1⟩
            obtain ⟨A5, c5, rfl, hr5⟩ := hbig.open_
            have hz1 := HZQ.out.fr hf1 (fun h => h)
            have HZ1 := Lib.hid hz1
            have HF1 := Lib.hid (HFW.out.trans' hf1)
            have hlt1 := hz1.lt
            generalize (digs an.natAbs).length = ann at *
            generalize decide (an < 0) = anb at *
            have p0 := hz1.cell 0
            have p1 := hz1.cell 1
            have p2 := hz1.cell 2
            have p3 := hz1.cell 3
            have q0 := hz1.frozen 0
            have q1 := hz1.frozen 1
            have q2 := hz1.frozen 2
            have q3 := hz1.frozen 3
            simp only [List.getElem?_toArray, List.getElem?_cons_zero, List.getElem?_cons_succ] at p0 p1 p2 p3
            clear hz1 hf1 hbig hr5
            go_wp2_with fail
            rw [HNO.out]
            unfold GetPost
            dsimp only
            exact bodyPost_ret (v := .tuple #[.agg #[.int .i64 0, .string ⟨#[]⟩, .string ⟨#[]⟩, .string ⟨#[]⟩], .bool false]) (results_c2 rfl _ _ (w.heap.size + 1) 41 _ (0, 0) _ rfl (show Blk _ (w.heap.size + 1) 41 #[.int .i64 0, .string ⟨#[]⟩, .string ⟨#[]⟩, .string ⟨#[]⟩] from ((((HZ1.out.set_ 0 (.int .i64 0)).set_ 1 (.string ⟨#[]⟩)).set_ 2 (.string ⟨#[]⟩)).set_ 3 (.string ⟨#[]⟩)).alloc (.cells #[.bool anb, .slice A5 ann c5] 83)) Tryz.underlying41 rfl (by kernel_rfl) _ rfl) rfl ⟨((((HF1.out.setCell ⟨w.heap.size + 1, 0, none⟩ (fun h => absurd h (by simp)) (.int .i64 0)).setCell ⟨w.heap.size + 1, 1, none⟩ (fun h => absurd h (by simp)) (.string ⟨#[]⟩)).setCell ⟨w.heap.size + 1, 2, none⟩ (fun h => absurd h (by simp)) (.string ⟨#[]⟩)).setCell ⟨w.heap.size + 1, 3, none⟩ (fun h => absurd h (by simp)) (.string ⟨#[]⟩)).alloc (.cells #[.bool anb, .slice A5 ann c5] 83), rfl⟩
        · have hjm' : decide (j < m) = false := by simpa using hjm
          have e : j = m := by omega
          have hsd : dSum dl j = dSum dl dl.length := by rw [e, HM.out]
          have had : dAll dl dl.length = true := by rw [HM.out, ← e]; exact HALL.out
          have HAD := Lib.hid had
          rw [hsd] at HBL HRW hbd hbl
          have hlen : (digs (dSum dl dl.length).natAbs).length ≤ 1000 := big_len (by omega) (by omega)
          have HLEN := Lib.hid hlen
          have HFT := Lib.hid (fits_any (wo.heap.size + 1) (.agg #[.bool (decide (dSum dl dl.length < 0)), .slice A (digs (dSum dl dl.length).natAbs).length c]) (dSum dl dl.length) wr (Nat.le_trans hlen (by decide)) ⟨A, c, rfl, HRW.out⟩)
          have HINT := Lib.hid (fun wy (hf : Fr (fun _ => False) wr wy) => integer_any (wo.heap.size + 1) (.agg #[.bool (decide (dSum dl dl.length < 0)), .slice A (digs (dSum dl dl.length).natAbs).length c]) (dSum dl dl.length) wy hlen ⟨A, c, rfl, HRW.out.fr hf⟩)
          have HDS := Lib.hid (show dsumO dl = if dAll dl dl.length = true ∧ (-9223372036854775808 ≤ dSum dl dl.length ∧ dSum dl dl.length ≤ 9223372036854775807) then some (intD (dSum dl dl.length)) else none from rfl)
          generalize dSum dl dl.length = S at *
          obtain ⟨q, hq⟩ : ∃ q, decide (-9223372036854775808 ≤ S ∧ S ≤ 9223372036854775807) = q := ⟨_, rfl⟩
          rw [hq] at HFT
          have HQ := Lib.hid hq
          have hb0 := hbl.cell 0
          have hb1 := hbl.cell 1
          simp only [List.getElem?_toArray, List.getElem?_cons_zero, List.getElem?_cons_succ] at hb0 hb1
          unfold intD DT.cells at HINT
          dsimp only at HINT
          generalize decide (S < 0) = zb at *
          generalize (digs S.natAbs).length = zn at *
          have HIS := Lib.hid (show (intD S).cells = #[.int .i64 2, .string ⟨(Lib.itoa S).toArray⟩, .string xInt, .string ⟨#[]⟩] from rfl)
          generalize (⟨(Lib.itoa S).toArray⟩ : ByteArray) = is at *
          generalize xInt = xi at *
          clear hsd had hlen hq hbl e hbd
          go_wp2_with fail
          with_reducible refine HFT.out.mono ?_
          rintro e w1 ⟨rfl, hf1⟩
          have hbl1 := HBL.out.fr hf1 (fun h => h)
          have hz1 := HZQ.out.fr hf1 (fun h => h)
          have HZ1 := Lib.hid hz1
          have HF1 := Lib.hid (HFW.out.trans' hf1)
          have HI := Lib.hid (HINT.out _ hf1)
          have u0 := hbl1.cell 0
          have u1 := hbl1.cell 1
          simp only [List.getElem?_toArray, List.getElem?_cons_zero, List.getElem?_cons_succ] at u0 u1
          have p0 := hz1.cell 0
          have p1 := hz1.cell 1
          have p2 := hz1.cell 2
          have p3 := hz1.cell 3
          have q0 := hz1.frozen 0
          have q1 := hz1.frozen 1
          have q2 := hz1.frozen 2
          have q3 := hz1.frozen 3
          simp only [List.getElem?_toArray, List.getElem?_cons_zero, List.getElem?_cons_succ] at p0 p1 p2 p3
          clear hf1 hbl1 hz1
          cases q with
          | true =>
            go_wp2_with fail
            with_reducible refine HI.out.mono ?_
            rintro e w9 ⟨rfl, hf9⟩
            have hz9 := HZ1.out.fr hf9 (fun h => h)
            have HZ9 := Lib.hid hz9
            have HF9 := Lib.hid (HF1.out.trans' hf9)
            have a0 := hz9.cell 0
            have a1 := hz9.cell 1
            have a2 := hz9.cell 2
            have a3 := hz9.cell 3
            have b0 := hz9.frozen 0
            have b1 := hz9.frozen 1
            have b2 := hz9.frozen 2
            have b3 := hz9.frozen 3
            simp only [List.getElem?_toArray, List.getElem?_cons_zero, List.getElem?_cons_succ] at a0 a1 a2 a3
            clear hz9 hf9
            go_wp2_with fail
            rw [HDS.out, if_pos ⟨HAD.out, of_decide_eq_true HQ.out⟩]
            unfold GetPost
            dsimp only
            rw [HIS.out]
            exact bodyPost_ret (v := .tuple #[.agg #[.int .i64 2, .string is, .string xi, .string ⟨#[]⟩], .bool true]) (results_c2 rfl _ _ (w.heap.size + 1) 41 _ (0, 0) _ rfl (show Blk _ (w.heap.size + 1) 41 #[.int .i64 2, .string is, .string xi, .string ⟨#[]⟩] from ((((HZ9.out.set_ 0 (.int .i64 2)).set_ 1 (.string is)).set_ 2 (.string xi)).set_ 3 (.string ⟨#[]⟩))) Tryz.underlying41 rfl (by kernel_rfl) _ rfl) rfl ⟨((((HF9.out.setCell ⟨w.heap.size + 1, 0, none⟩ (fun h => absurd h (by simp)) (.int .i64 2)).setCell ⟨w.heap.size + 1, 1, none⟩ (fun h => absurd h (by simp)) (.string is)).setCell ⟨w.heap.size + 1, 2, none⟩ (fun h => absurd h (by simp)) (.string xi)).setCell ⟨w.heap.size + 1, 3, none⟩ (fun h => absurd h (by simp)) (.string ⟨#[]⟩)), rfl⟩
          | false =>
            go_wp2_with fail
            rw [HDS.out, if_neg (fun h => absurd h.2 (of_decide_eq_false HQ.out))]
            unfold GetPost
            dsimp only
            exact bodyPost_ret (v := .tuple #[.agg #[.int .i64 0, .string ⟨#[]⟩, .string ⟨#[]⟩, .string ⟨#[]⟩], .bool false]) (results_c2 rfl _ _ (w.heap.size + 1) 41 _ (0, 0) _ rfl (show Blk _ (w.heap.size + 1) 41 #[.int .i64 0, .string ⟨#[]⟩, .string ⟨#[]⟩, .string ⟨#[]⟩] from ((((HZ1.out.set_ 0 (.int .i64 0)).set_ 1 (.string ⟨#[]⟩)).set_ 2 (.string ⟨#[]⟩)).set_ 3 (.string ⟨#[]⟩))) Tryz.underlying41 rfl (by kernel_rfl) _ rfl) rfl ⟨((((HF1.out.setCell ⟨w.heap.size + 1, 0, none⟩ (fun h => absurd h (by simp)) (.int .i64 0)).setCell ⟨w.heap.size + 1, 1, none⟩ (fun h => absurd h (by simp)) (.string ⟨#[]⟩)).setCell ⟨w.heap.size + 1, 2, none⟩ (fun h => absurd h (by simp)) (.string ⟨#[]⟩)).setCell ⟨w.heap.size + 1, 3, none⟩ (fun h => absurd h (by simp)) (.string ⟨#[]⟩)), rfl⟩

set_option maxRecDepth 100000 in
set_option maxHeartbeats 4000000 in
theorem dfoldN_any (B : Nat) (v0 v : ByteArray) (vr : Value) (vals : List Value) (refs : List (List BD)) (w : World) (hv : (v.toList == [42]) = false) (hn : refs.length ≤ 100) (hb : ∀ i, i < refs.length → (refs.getD i []).length ≤ 100) (hr : RefsAt w B vr vals refs) :
    Calls Tryz.prog 9 #[.agg #[.string v0, .string ⟨#[77, 73, 78]⟩, .string v], vr] w (GetPost (dpickO (fun x m => dLess x m) (dTerms refs v refs.length)) w) := by
  obtain ⟨A0, c0, rfl⟩ := row_shape hr.own
  obtain ⟨i41, hi41, hz410, hz411, hz412⟩ := info_parts info41
  have HR := Lib.hid hr
  have HB := Lib.hid hb
  have HDL := Lib.hid (dTerms_le refs v)
  obtain ⟨dl, hdle⟩ : ∃ dl, dTerms refs v refs.length = dl := ⟨_, rfl⟩
  rw [hdle]
  have hdln : dl.length ≤ refs.length := by rw [← hdle]; exact dTerms_le refs v _
  have HDLE := Lib.hid hdle
  clear hdle
  obtain ⟨n, hnn⟩ : ∃ n, refs.length = n := ⟨_, rfl⟩
  have HN := Lib.hid hnn
  rw [hnn] at hn hdln ⊢
  obtain ⟨m, hm⟩ : ∃ m, dl.length = m := ⟨_, rfl⟩
  rw [hm] at hdln
  try rw [hm]
  have HM := Lib.hid hm
  clear hm
  have hBX := (Blk.new w 35 #[.string v0, .string ⟨#[77, 73, 78]⟩, .string v]).alloc (.cells #[.int .i64 0, .string ⟨#[]⟩, .string ⟨#[]⟩, .string ⟨#[]⟩] 41)
  have hZ := Blk.new (w.alloc (.cells #[.string v0, .string ⟨#[77, 73, 78]⟩, .string v] 35)) 41 #[.int .i64 0, .string ⟨#[]⟩, .string ⟨#[]⟩, .string ⟨#[]⟩]
  rw [show (w.alloc (.cells #[.string v0, .string ⟨#[77, 73, 78]⟩, .string v] 35)).heap.size = w.heap.size + 1 by simp] at hZ
  have HBX := Lib.hid hBX
  have HZ := Lib.hid hZ
  have hv2 : (v.toList != [42]) = true := by rw [bne, hv]; rfl
  clear hr hb hnn hBX hZ
  go_enter Tryz.func9, Tryz.ntmps9
  go_wp2_with fail
  go_loopw [6, 25] (fun lv iv wr => ∃ (i : Nat), iv = .int .i64 (i : Int) ∧ i ≤ n ∧ TRow wr (w.heap.size + 2) lv (dTerms refs v i) ∧ Blk wr w.heap.size 35 #[.string v0, .string ⟨#[77, 73, 78]⟩, .string v] ∧ Blk wr (w.heap.size + 1) 41 #[.int .i64 0, .string ⟨#[]⟩, .string ⟨#[]⟩, .string ⟨#[]⟩] ∧ Fr (fun _ => False) w wr ∧ w.heap.size + 2 ≤ wr.heap.size) (fun _ iv _ => n - (intOf iv).toNat)
  case atStart => exact ⟨0, rfl, Nat.zero_le _, TRow.nil _ _, HBX.out, HZ.out, ((Fr.refl _ _).alloc _).alloc _, by simp⟩
  case round =>
    obtain ⟨i, rfl, hi, hrow, hbx, hz, hf, hsz⟩ := hrel
    have HROW := Lib.hid hrow
    have HX := Lib.hid hbx
    have HZR := Lib.hid hz
    have HF := Lib.hid hf
    have x1 : wr.cell? ⟨w.heap.size, 1, none⟩ = some (.string ⟨#[77, 73, 78]⟩) := hbx.cell 1
    have x2 : wr.cell? ⟨w.heap.size, 2, none⟩ = some (.string v) := hbx.cell 2
    obtain ⟨Al, cl, rfl⟩ := row_shape hrow
    have hdl := HDL.out i
    by_cases hlt : i < n
    · have hlt' : decide (i < n) = true := by simpa using hlt
      have hrr := HR.out.frF hf
      have hown := hrr.own
      rw [HN.out] at hown
      obtain ⟨ga, rfl, _, _, _⟩ := row_form hown (by omega)
      have hck : wr.cell? ⟨ga, i, none⟩ = some (vals.getD i undef) := by
        rw [World.ownsRow.cellAt hown i (by omega), List.getD_eq_getElem?_getD, List.getElem?_eq_getElem (by have := hrr.len; rw [HN.out] at this; omega)]; rfl
      have hgl := (hown.lt ga rfl).2
      have HGET := Lib.hid (fun wy (hf : Fr (fun _ => False) wr wy) => get_any B (refs.getD i []) (vals.getD i undef) v wy (HB.out i (by rw [HN.out]; exact hlt)) ((hrr.frF hf).each i (by rw [HN.out]; exact hlt)))
      have hS := hown.1
      have HOWN := Lib.hid hown
      have HCK := Lib.hid (fun (w' : World) (hf : Fr (fun _ => False) wr w') => (⟨cell_fr hf hck, (hbx.fr hf (fun h => h)).cell 2⟩ : w'.cell? ⟨ga, i, none⟩ = some (vals.getD i undef) ∧ w'.cell? ⟨w.heap.size, 2, none⟩ = some (.string v)))
      clear hown hrr hS hrow hbx hz hf
      generalize vals.getD i undef = vi at *
      obtain ⟨o, ho⟩ : ∃ o, getB (refs.getD i []) v (refs.getD i []).length = o := ⟨_, rfl⟩
      have HO := Lib.hid ho
      rw [ho] at HGET
      clear ho
      have hgeb : w.heap.size < wr.heap.size := by omega
      go_upto_region 7 with (fail)
      go_cut [8, 9] from 28 to 37 (fun p q wx => ∃ g8 : Nat, p = .pointer (some ⟨g8, 0, none⟩) ∧ q = .bool o.isSome ∧ wr.heap.size ≤ g8 ∧ Blk wx g8 41 (o.getD dt0).cells ∧ Fr (fun _ => False) wr wx)
      case first =>
        cases o with
        | none =>
          unfold GetPost at HGET
          dsimp only at HGET
          go_region_held3 (fun w' => w'.cell? ⟨ga, i, none⟩ = some vi ∧ w'.cell? ⟨w.heap.size, 2, none⟩ = some (.string v))
            (first | exact HCK.out _ (F4 _ _ _ _) | exact HCK.out _ F1 | exact HCK.out _ (F1.alloc _) | exact HCK.out _ (Fr.refl (fun _ => False) wr).drew | exact HCK.out _ ((Fr.refl (fun _ => False) wr).alloc _).drew)
            (first
              | (go_at_call 32; refine (HGET.out _ ((Fr.refl (fun _ => False) wr).alloc _).drew).mono ?_; rintro e w1 ⟨hf1, rfl⟩; have F1 : Fr (fun _ => False) wr w1 := (((Fr.refl (fun _ => False) wr).alloc _).drew).trans' hf1; have hb8 : Blk w1 wr.heap.size 41 _ := ((Blk.new wr 41 #[.int .i64 0, .string ⟨#[]⟩, .string ⟨#[]⟩, .string ⟨#[]⟩]).drew).fr hf1 (fun h => h); have k0 := hb8.cell 0; have k1 := hb8.cell 1; have k2 := hb8.cell 2; have k3 := hb8.cell 3; have z0 := hb8.frozen 0; have z1 := hb8.frozen 1; have z2 := hb8.frozen 2; have z3 := hb8.frozen 3; simp only [List.getElem?_toArray, List.getElem?_cons_zero, List.getElem?_cons_succ] at k0 k1 k2 k3; have F4 : ∀ u0 u1 u2 u3, Fr (fun _ => False) wr ((((w1.setCell ⟨wr.heap.size, 0, none⟩ u0).setCell ⟨wr.heap.size, 1, none⟩ u1).setCell ⟨wr.heap.size, 2, none⟩ u2).setCell ⟨wr.heap.size, 3, none⟩ u3) := (fun u0 u1 u2 u3 => (((F1.setCell ⟨wr.heap.size, 0, none⟩ (fun h => absurd h (Nat.lt_irrefl _)) u0).setCell ⟨wr.heap.size, 1, none⟩ (fun h => absurd h (Nat.lt_irrefl _)) u1).setCell ⟨wr.heap.size, 2, none⟩ (fun h => absurd h (Nat.lt_irrefl _)) u2).setCell ⟨wr.heap.size, 3, none⟩ (fun h => absurd h (Nat.lt_irrefl _)) u3))
              | (go_at_call 32; refine (HGET.out _ (Fr.refl (fun _ => False) wr).drew).mono ?_; rintro e w1 ⟨hf1, rfl⟩; have F1 : Fr (fun _ => False) wr w1 := ((Fr.refl (fun _ => False) wr).drew).trans' hf1))
          all_goals
            go_wp2_with fail
            go_meet
            first
              | exact ⟨wr.heap.size, rfl, rfl, Nat.le_refl _, (((hb8.set_ 0 (.int .i64 0)).set_ 1 (.string ⟨#[]⟩)).set_ 2 (.string ⟨#[]⟩)).set_ 3 (.string ⟨#[]⟩), F4 _ _ _ _⟩
              | exact ⟨w1.heap.size, rfl, rfl, F1.size, Blk.new w1 41 #[.int .i64 0, .string ⟨#[]⟩, .string ⟨#[]⟩, .string ⟨#[]⟩], F1.alloc _⟩
        | some t =>
          obtain ⟨kt, tx, ty, tl⟩ := t
          unfold GetPost DT.cells at HGET
          dsimp only at HGET
          go_region_held3 (fun w' => w'.cell? ⟨ga, i, none⟩ = some vi ∧ w'.cell? ⟨w.heap.size, 2, none⟩ = some (.string v))
            (first | exact HCK.out _ (F4 _ _ _ _) | exact HCK.out _ F1 | exact HCK.out _ (F1.alloc _) | exact HCK.out _ (Fr.refl (fun _ => False) wr).drew | exact HCK.out _ ((Fr.refl (fun _ => False) wr).alloc _).drew)
            (first
              | (go_at_call 32; refine (HGET.out _ ((Fr.refl (fun _ => False) wr).alloc _).drew).mono ?_; rintro e w1 ⟨hf1, rfl⟩; have F1 : Fr (fun _ => False) wr w1 := (((Fr.refl (fun _ => False) wr).alloc _).drew).trans' hf1; have hb8 : Blk w1 wr.heap.size 41 _ := ((Blk.new wr 41 #[.int .i64 0, .string ⟨#[]⟩, .string ⟨#[]⟩, .string ⟨#[]⟩]).drew).fr hf1 (fun h => h); have k0 := hb8.cell 0; have k1 := hb8.cell 1; have k2 := hb8.cell 2; have k3 := hb8.cell 3; have z0 := hb8.frozen 0; have z1 := hb8.frozen 1; have z2 := hb8.frozen 2; have z3 := hb8.frozen 3; simp only [List.getElem?_toArray, List.getElem?_cons_zero, List.getElem?_cons_succ] at k0 k1 k2 k3; have F4 : ∀ u0 u1 u2 u3, Fr (fun _ => False) wr ((((w1.setCell ⟨wr.heap.size, 0, none⟩ u0).setCell ⟨wr.heap.size, 1, none⟩ u1).setCell ⟨wr.heap.size, 2, none⟩ u2).setCell ⟨wr.heap.size, 3, none⟩ u3) := (fun u0 u1 u2 u3 => (((F1.setCell ⟨wr.heap.size, 0, none⟩ (fun h => absurd h (Nat.lt_irrefl _)) u0).setCell ⟨wr.heap.size, 1, none⟩ (fun h => absurd h (Nat.lt_irrefl _)) u1).setCell ⟨wr.heap.size, 2, none⟩ (fun h => absurd h (Nat.lt_irrefl _)) u2).setCell ⟨wr.heap.size, 3, none⟩ (fun h => absurd h (Nat.lt_irrefl _)) u3))
              | (go_at_call 32; refine (HGET.out _ (Fr.refl (fun _ => False) wr).drew).mono ?_; rintro e w1 ⟨hf1, rfl⟩; have F1 : Fr (fun _ => False) wr w1 := ((Fr.refl (fun _ => False) wr).drew).trans' hf1))
          all_goals
            go_wp2_with fail
            go_meet
            first
              | exact ⟨wr.heap.size, rfl, rfl, Nat.le_refl _, (((hb8.set_ 0 (.int .i64 kt)).set_ 1 (.string tx)).set_ 2 (.string ty)).set_ 3 (.string tl), F4 _ _ _ _⟩
              | exact ⟨w1.heap.size, rfl, rfl, F1.size, Blk.new w1 41 #[.int .i64 kt, .string tx, .string ty, .string tl], F1.alloc _⟩
      case rest =>
        obtain ⟨g8, rfl, rfl, hg8, hb8, hf8⟩ := hcut
        have HF8 := Lib.hid hf8
        have HB8 := Lib.hid hb8
        have hs8 := hf8.size
        have hg8b := hb8.lt
        cases o with
        | none =>
          have HST := Lib.hid (dTerms_none HO.out)
          dsimp only [Option.isSome]
          clear hf8 hb8
          go_wp2_with fail
          go_roundw
          case rel => exact ⟨i + 1, by go_num, hlt, by rw [HST.out]; exact HROW.out.fr HF8.out, HX.out.fr HF8.out (fun h => h), HZR.out.fr HF8.out (fun h => h), HF.out.trans' HF8.out, by omega⟩
          case measure => simp only [intOf]; omega
        | some t =>
          have HST := Lib.hid (dTerms_some HO.out)
          obtain ⟨kt, tx, ty, tl⟩ := t
          dsimp only [Option.isSome, Option.getD, DT.cells] at hb8 ⊢
          have k0 := hb8.cell 0
          have k1 := hb8.cell 1
          have k2 := hb8.cell 2
          have k3 := hb8.cell 3
          simp only [List.getElem?_toArray, List.getElem?_cons_zero, List.getElem?_cons_succ] at k0 k1 k2 k3
          generalize hdn : (dTerms refs v i).length = m at *
          have HDN := Lib.hid hdn
          clear hdn hf8 hb8
          have HROW2 : Hid (wc.ownsRow (w.heap.size + 2) 41 4 (.slice Al m cl) m (tcells (dTerms refs v i))) := Lib.hid (by
            have h := HROW.out.fr HF8.out
            unfold TRow at h
            rw [HDN.out] at h
            exact h)
          go_wp2_with (at_builtin; refine wpList_append_own_at _ rfl _ _ 85 rfl (w.heap.size + 2) 41 i41 _ 4 56 Tryz.underlying85 hi41 hz410 hz411 hz412 rfl (by decide) _ m (tcells (dTerms refs v i)) (by rfl) (HROW2.out.alloc _) ⟨wc.heap.size, 0, none⟩ 1 1 [.int .i64 kt, .string tx, .string ty, .string tl] (by rfl) rfl (World.news_of_block (heap_alloc_new wc _)) (by intro u hu; simp only [List.mem_cons, List.not_mem_nil, or_false] at hu; rcases hu with rfl | rfl | rfl | rfl <;> rfl) (by unfold maxLen; omega) (by omega) (by simp; omega) ?_; intro v6 w6 hown6 hgr6 _ hat6; obtain ⟨A6, c6, hv6⟩ := row_shape hown6; subst hv6)
          have F6 : Fr (fun j => (Value.slice Al m cl).ownBlock = some j) wc w6 := ((Fr.refl _ _).alloc _).trans (Fr.of_grown hgr6) (fun _ _ h => h)
          have HX6 := Lib.hid ((HX.out.fr HF8.out (fun h => h)).fr F6 (fun h => absurd (HROW2.out.lt _ h).1 (by omega)))
          have HZ6 := Lib.hid ((HZR.out.fr HF8.out (fun h => h)).fr F6 (fun h => absurd (HROW2.out.lt _ h).1 (by omega)))
          have HF6 := Lib.hid ((HF.out.trans' HF8.out).trans F6 (fun j hj h => absurd (HROW2.out.lt j h).1 (by omega)))
          have hs6 := F6.size
          have HO6 : Hid (TRow w6 (w.heap.size + 2) (.slice A6 (m + 1) c6) (dTerms refs v i ++ [⟨kt, tx, ty, tl⟩])) := Lib.hid (by
            unfold TRow
            rw [List.length_append, HDN.out, tcells_append]
            exact hown6)
          clear hown6 hgr6 hat6 F6
          go_wp2_with fail
          go_roundw
          case rel => exact ⟨i + 1, by go_num, hlt, by rw [HST.out]; exact HO6.out, HX6.out, HZ6.out, HF6.out, by omega⟩
          case measure => simp only [intOf]; omega
    · have hlt' : decide (i < n) = false := by simpa using hlt
      have e : i = n := by omega
      have hdd : dTerms refs v i = dl := by rw [e, ← HN.out]; exact HDLE.out
      rw [hdd] at HROW hdl ⊢
      rw [HM.out] at HROW ⊢
      clear hdd e hrow hbx hz hf hdl
      obtain ⟨wo, rfl⟩ : ∃ wo, wo = wr := ⟨wr, rfl⟩
      by_cases hm0 : m = 0
      · subst hm0
        have hno : dpickO (fun x m => dLess x m) dl = none := if_pos HM.out
        have HNO := Lib.hid hno
        have hzo := HZR.out
        have p0 := hzo.cell 0
        have p1 := hzo.cell 1
        have p2 := hzo.cell 2
        have p3 := hzo.cell 3
        have q0 := hzo.frozen 0
        have q1 := hzo.frozen 1
        have q2 := hzo.frozen 2
        have q3 := hzo.frozen 3
        simp only [List.getElem?_toArray, List.getElem?_cons_zero, List.getElem?_cons_succ] at p0 p1 p2 p3
        clear hno hzo
        go_wp2_with fail
        rw [HNO.out]
        unfold GetPost
        dsimp only
        exact bodyPost_ret (v := .tuple #[.agg #[.int .i64 0, .string ⟨#[]⟩, .string ⟨#[]⟩, .string ⟨#[]⟩], .bool false]) (results_c2 rfl _ _ (w.heap.size + 1) 41 _ (0, 0) _ rfl (show Blk _ (w.heap.size + 1) 41 #[.int .i64 0, .string ⟨#[]⟩, .string ⟨#[]⟩, .string ⟨#[]⟩] from ((((HZR.out.set_ 0 (.int .i64 0)).set_ 1 (.string ⟨#[]⟩)).set_ 2 (.string ⟨#[]⟩)).set_ 3 (.string ⟨#[]⟩))) Tryz.underlying41 rfl (by kernel_rfl) _ rfl) rfl ⟨((((HF.out.setCell ⟨w.heap.size + 1, 0, none⟩ (fun h => absurd h (by simp)) (.int .i64 0)).setCell ⟨w.heap.size + 1, 1, none⟩ (fun h => absurd h (by simp)) (.string ⟨#[]⟩)).setCell ⟨w.heap.size + 1, 2, none⟩ (fun h => absurd h (by simp)) (.string ⟨#[]⟩)).setCell ⟨w.heap.size + 1, 3, none⟩ (fun h => absurd h (by simp)) (.string ⟨#[]⟩)), rfl⟩
      · have hm1 : ((m : Int) == 0) = false := by simp [hm0]
        have hsome : dpickO (fun x m => dLess x m) dl = some (dPick (fun x m => dLess x m) dl m) := by
          unfold dpickO
          rw [if_neg (by rw [HM.out]; exact hm0), HM.out]
        have HSOME := Lib.hid hsome
        obtain ⟨gl, hAl, e0, e1, e2, e3⟩ := HROW.out.at_ HM.out 0 (by omega)
        subst hAl
        have HP0 := Lib.hid (show dPick (fun x m => dLess x m) dl 0 = dl.getD 0 dt0 from rfl)
        obtain ⟨xx, hxx⟩ : ∃ xx, dl.getD 0 dt0 = xx := ⟨_, rfl⟩
        rw [hxx] at e0 e1 e2 e3 HP0
        obtain ⟨kt, tx, ty, tl⟩ := xx
        simp only [Nat.zero_mul, Nat.zero_add] at e0 e1 e2 e3
        have HB0 := Lib.hid (Blk.new wo 41 #[.int .i64 kt, .string tx, .string ty, .string tl])
        clear hsome hxx
        go_wp2_with fail
        go_loopw [90] (fun jv wq => ∃ (j : Nat), jv = .int .i64 (j : Int) ∧ j ≤ m ∧ Blk wq wo.heap.size 41 (dPick (fun x m => dLess x m) dl j).cells ∧ Fr (fun _ => False) wo wq) (fun jv _ => m - (intOf jv).toNat)
        case atStart => exact ⟨0, rfl, Nat.zero_le _, by rw [HP0.out]; exact HB0.out, (Fr.refl _ _).alloc _⟩
        case round =>
          clear e0 e1 e2 e3
          obtain ⟨j, rfl, hj, hbl, hfq⟩ := hrel
          have HFQ := Lib.hid hfq
          have HBL := Lib.hid hbl
          have hzq := HZR.out.fr hfq (fun h => h)
          have HZQ := Lib.hid hzq
          have HFW := Lib.hid (HF.out.trans' hfq)
          have hxq := HX.out.fr hfq (fun h => h)
          obtain ⟨oo, hoo⟩ : ∃ oo, dPick (fun x m => dLess x m) dl j = oo := ⟨_, rfl⟩
          have HOO := Lib.hid hoo
          rw [hoo] at hbl HBL
          by_cases hjm : j < m
          · have hjm' : decide (j < m) = true := by simpa using hjm
            obtain ⟨gl2, hgl2, e0, e1, e2, e3⟩ := (HROW.out.fr hfq).at_ HM.out j hjm
            obtain rfl : gl = gl2 := by
              have h := Option.some.inj hgl2
              exact congrArg Addr.block h
            have hst := dPick_step (fun x m => dLess x m) dl j
            obtain ⟨xx, hxx⟩ : ∃ xx, dl.getD j dt0 = xx := ⟨_, rfl⟩
            rw [hxx, hoo] at hst
            rw [hxx] at e0 e1 e2 e3
            obtain ⟨kt, tx, ty, tl⟩ := xx
            obtain ⟨ko, ox, oy, ol⟩ := oo
            unfold DT.cells at hbl HBL
            dsimp only at e0 e1 e2 e3 hst hbl HBL
            have HCE := Lib.hid (fun (w' : World) (hf : Fr (fun _ => False) wr w') => (⟨cell_fr hf (hxq.cell 1), cell_fr hf e0, cell_fr hf e1, cell_fr hf e2, cell_fr hf e3, cell_fr hf (hbl.cell 0), cell_fr hf (hbl.cell 1), cell_fr hf (hbl.cell 2), cell_fr hf (hbl.cell 3)⟩ : w'.cell? ⟨w.heap.size, 1, none⟩ = some (.string ⟨#[77, 73, 78]⟩) ∧ w'.cell? ⟨gl, j * 4, none⟩ = some (.int .i64 kt) ∧ w'.cell? ⟨gl, j * 4 + 1, none⟩ = some (.string tx) ∧ w'.cell? ⟨gl, j * 4 + 2, none⟩ = some (.string ty) ∧ w'.cell? ⟨gl, j * 4 + 3, none⟩ = some (.string tl) ∧ w'.cell? ⟨wo.heap.size, 0, none⟩ = some (.int .i64 ko) ∧ w'.cell? ⟨wo.heap.size, 1, none⟩ = some (.string ox) ∧ w'.cell? ⟨wo.heap.size, 2, none⟩ = some (.string oy) ∧ w'.cell? ⟨wo.heap.size, 3, none⟩ = some (.string ol)))
            have HLS := Lib.hid (fun wy => dLess_any ⟨kt, tx, ty, tl⟩ ⟨ko, ox, oy, ol⟩ wy)
            unfold DT.cells at HLS
            dsimp only at HLS
            obtain ⟨b, hb⟩ : ∃ b, dLess ⟨kt, tx, ty, tl⟩ ⟨ko, ox, oy, ol⟩ = b := ⟨_, rfl⟩
            rw [hb] at HLS hst
            have HST := Lib.hid hst
            have x1 : wr.cell? ⟨w.heap.size, 1, none⟩ = some (.string ⟨#[77, 73, 78]⟩) := hxq.cell 1
            clear hst hb hoo hxx hzq hxq hbl hfq
            go_upto_region 32 with (fail)
            go_cut [116] from 93 to 116 (fun q wx => q = .bool b ∧ Fr (fun _ => False) wr wx)
            case first =>
              cases b with
              | true =>
                refine wp_region_noPanic ?_
                refine wp_region_held_drew (S := (fun w' => w'.cell? ⟨w.heap.size, 1, none⟩ = some (.string ⟨#[77, 73, 78]⟩) ∧ w'.cell? ⟨gl, j * 4, none⟩ = some (.int .i64 kt) ∧ w'.cell? ⟨gl, j * 4 + 1, none⟩ = some (.string tx) ∧ w'.cell? ⟨gl, j * 4 + 2, none⟩ = some (.string ty) ∧ w'.cell? ⟨gl, j * 4 + 3, none⟩ = some (.string tl) ∧ w'.cell? ⟨wo.heap.size, 0, none⟩ = some (.int .i64 ko) ∧ w'.cell? ⟨wo.heap.size, 1, none⟩ = some (.string ox) ∧ w'.cell? ⟨wo.heap.size, 2, none⟩ = some (.string oy) ∧ w'.cell? ⟨wo.heap.size, 3, none⟩ = some (.string ol))) (by kernel_rfl) ?_ (fun hHeld => ?_)
                · try dsimp only
                  exact HCE.out _ (Fr.refl (fun _ => False) wr).drew
                refine wpAnyH_take (i := 0) (oi := _) (v := ?_) (by simp only [List.getElem?_toArray, List.getElem?_cons_zero]; rfl) (by kernel_rfl) (by kernel_rfl) (by kernel_rfl) (fun _ _ _ h => h) (Or.inl ⟨by rfl, ?_⟩) (by assumption) ?_
                rotate_left
                · intro w hSw
                  try dsimp only at hSw
                  go_simp
                  all_goals (with_reducible rfl)
                try simp only [Act.put, List.setIfInBounds_toArray, List.set_cons_zero, List.set_cons_succ]
                refine wpAnyH_take (i := 1) (oi := _) (v := ?_) (by simp only [List.getElem?_toArray, List.getElem?_cons_zero, List.getElem?_cons_succ]; rfl) (by kernel_rfl) (by kernel_rfl) (by kernel_rfl) (fun _ _ _ h => h) (Or.inl ⟨by rfl, ?_⟩) (by assumption) ?_
                rotate_left
                · intro w hSw
                  try dsimp only at hSw
                  go_simp
                  all_goals (with_reducible rfl)
                try simp only [Act.put, List.setIfInBounds_toArray, List.set_cons_zero, List.set_cons_succ]
                refine wpAnyH_take (i := 2) (oi := _) (v := ?_) (by simp only [List.getElem?_toArray, List.getElem?_cons_zero, List.getElem?_cons_succ]; rfl) (by kernel_rfl) (by kernel_rfl) (by kernel_rfl) (fun _ _ _ h => h) (Or.inl ⟨by rfl, ?_⟩) (by assumption) ?_
                rotate_left
                · intro w hSw
                  try dsimp only at hSw
                  go_simp
                  all_goals (with_reducible rfl)
                try simp only [Act.put, List.setIfInBounds_toArray, List.set_cons_zero, List.set_cons_succ]
                refine wpAnyH_take (i := 3) (oi := _) (v := ?_) (by simp only [List.getElem?_toArray, List.getElem?_cons_zero, List.getElem?_cons_succ]; rfl) (by kernel_rfl) (by kernel_rfl) (by kernel_rfl) (fun _ _ _ h => h) (Or.inl ⟨by rfl, ?_⟩) (by assumption) ?_
                rotate_left
                · intro w hSw
                  try dsimp only at hSw
                  go_simp
                  all_goals (with_reducible rfl)
                try simp only [Act.put, List.setIfInBounds_toArray, List.set_cons_zero, List.set_cons_succ]
                refine wpAnyH_take (i := 4) (oi := _) (v := ?_) (by simp only [List.getElem?_toArray, List.getElem?_cons_zero, List.getElem?_cons_succ]; rfl) (by kernel_rfl) (by kernel_rfl) (by kernel_rfl) (fun _ _ _ h => h) (Or.inl ⟨by rfl, ?_⟩) (by assumption) ?_
                rotate_left
                · intro w hSw
                  try dsimp only at hSw
                  go_simp
                  all_goals (with_reducible rfl)
                try simp only [Act.put, List.setIfInBounds_toArray, List.set_cons_zero, List.set_cons_succ]
                refine wpAnyH_take (i := 5) (oi := _) (v := ?_) (by simp only [List.getElem?_toArray, List.getElem?_cons_zero, List.getElem?_cons_succ]; rfl) (by kernel_rfl) (by kernel_rfl) (by kernel_rfl) (fun _ _ _ h => h) (Or.inl ⟨by rfl, ?_⟩) (by assumption) ?_
                rotate_left
                · intro w hSw
                  try dsimp only at hSw
                  go_simp
                  all_goals (with_reducible rfl)
                try simp only [Act.put, List.setIfInBounds_toArray, List.set_cons_zero, List.set_cons_succ]
                refine wpAnyH_take (i := 6) (oi := _) (v := ?_) (by simp only [List.getElem?_toArray, List.getElem?_cons_zero, List.getElem?_cons_succ]; rfl) (by kernel_rfl) (by kernel_rfl) (by kernel_rfl) (fun _ _ _ h => h) (Or.inl ⟨by rfl, ?_⟩) (by assumption) ?_
                rotate_left
                · intro w hSw
                  try dsimp only at hSw
                  go_simp
                  all_goals (with_reducible rfl)
                try simp only [Act.put, List.setIfInBounds_toArray, List.set_cons_zero, List.set_cons_succ]
                refine wpAnyH_take (i := 7) (oi := _) (v := ?_) (by simp only [List.getElem?_toArray, List.getElem?_cons_zero, List.getElem?_cons_succ]; rfl) (by kernel_rfl) (by kernel_rfl) (by kernel_rfl) (fun _ _ _ h => h) (Or.inl ⟨by rfl, ?_⟩) (by assumption) ?_
                rotate_left
                · intro w hSw
                  try dsimp only at hSw
                  go_simp
                  all_goals (with_reducible rfl)
                try simp only [Act.put, List.setIfInBounds_toArray, List.set_cons_zero, List.set_cons_succ]
                refine wpAnyH_take (i := 8) (oi := _) (v := ?_) (by simp only [List.getElem?_toArray, List.getElem?_cons_zero, List.getElem?_cons_succ]; rfl) (by kernel_rfl) (by kernel_rfl) (by kernel_rfl) (fun _ _ _ h => h) (Or.inl ⟨by rfl, ?_⟩) (by assumption) ?_
                rotate_left
                · intro w hSw
                  try dsimp only at hSw
                  go_simp
                  all_goals (with_reducible rfl)
                try simp only [Act.put, List.setIfInBounds_toArray, List.set_cons_zero, List.set_cons_succ]
                refine wpAnyH_ready (rs := [9]) (by kernel_rfl) (by simp) ?_
                refine AllReadyH.cons (o := _) (by simp only [List.getElem?_toArray, List.getElem?_cons_zero, List.getElem?_cons_succ]; rfl) (fun K hK => ?_) ?_
                · skip
                  go_simp
                  go_at_call 36
                  refine (HLS.out _).mono ?_
                  rintro e w1 ⟨rfl, hf1⟩
                  have F1 : Fr (fun _ => False) wr w1 := ((Fr.refl (fun _ => False) wr).drew).trans' hf1
                  refine hK.out _ _ ?_ (fun hHeld => ?_)
                  · try dsimp only
                    exact HCE.out _ F1
                  clear hK K
                  try simp only [Act.put, List.setIfInBounds_toArray, List.set_cons_zero, List.set_cons_succ]
                  refine wpAnyH_take (i := 10) (oi := _) (v := ?_) (by simp only [List.getElem?_toArray, List.getElem?_cons_zero, List.getElem?_cons_succ]; rfl) (by kernel_rfl) (by kernel_rfl) (by kernel_rfl) (fun _ _ _ h => h) (Or.inl ⟨by rfl, ?_⟩) (by assumption) ?_
                  rotate_left
                  · intro w hSw
                    try dsimp only at hSw
                    go_simp
                    all_goals (with_reducible rfl)
                  try simp only [Act.put, List.setIfInBounds_toArray, List.set_cons_zero, List.set_cons_succ]
                  refine wpAnyH_take (i := 11) (oi := _) (v := ?_) (by simp only [List.getElem?_toArray, List.getElem?_cons_zero, List.getElem?_cons_succ]; rfl) (by kernel_rfl) (by kernel_rfl) (by kernel_rfl) (fun _ _ _ h => h) (Or.inl ⟨by rfl, ?_⟩) (by assumption) ?_
                  rotate_left
                  · intro w hSw
                    try dsimp only at hSw
                    go_simp
                    all_goals (with_reducible rfl)
                  try simp only [Act.put, List.setIfInBounds_toArray, List.set_cons_zero, List.set_cons_succ]
                  refine wpAnyH_take (i := 12) (oi := _) (v := undef) (by simp only [List.getElem?_toArray, List.getElem?_cons_zero, List.getElem?_cons_succ]; rfl) (by kernel_rfl) (by kernel_rfl) (by kernel_rfl) (fun _ _ _ h => h) (Or.inr ⟨by rfl, rfl⟩) (by assumption) ?_
                  try simp only [Act.put, List.setIfInBounds_toArray, List.set_cons_zero, List.set_cons_succ]
                  refine wpAnyH_take (i := 13) (oi := _) (v := undef) (by simp only [List.getElem?_toArray, List.getElem?_cons_zero, List.getElem?_cons_succ]; rfl) (by kernel_rfl) (by kernel_rfl) (by kernel_rfl) (fun _ _ _ h => h) (Or.inr ⟨by rfl, rfl⟩) (by assumption) ?_
                  try simp only [Act.put, List.setIfInBounds_toArray, List.set_cons_zero, List.set_cons_succ]
                  refine wpAnyH_take (i := 14) (oi := _) (v := undef) (by simp only [List.getElem?_toArray, List.getElem?_cons_zero, List.getElem?_cons_succ]; rfl) (by kernel_rfl) (by kernel_rfl) (by kernel_rfl) (fun _ _ _ h => h) (Or.inr ⟨by rfl, rfl⟩) (by assumption) ?_
                  try simp only [Act.put, List.setIfInBounds_toArray, List.set_cons_zero, List.set_cons_succ]
                  refine wpAnyH_take (i := 15) (oi := _) (v := undef) (by simp only [List.getElem?_toArray, List.getElem?_cons_zero, List.getElem?_cons_succ]; rfl) (by kernel_rfl) (by kernel_rfl) (by kernel_rfl) (fun _ _ _ h => h) (Or.inr ⟨by rfl, rfl⟩) (by assumption) ?_
                  try simp only [Act.put, List.setIfInBounds_toArray, List.set_cons_zero, List.set_cons_succ]
                  refine wpAnyH_take (i := 16) (oi := _) (v := undef) (by simp only [List.getElem?_toArray, List.getElem?_cons_zero, List.getElem?_cons_succ]; rfl) (by kernel_rfl) (by kernel_rfl) (by kernel_rfl) (fun _ _ _ h => h) (Or.inr ⟨by rfl, rfl⟩) (by assumption) ?_
                  try simp only [Act.put, List.setIfInBounds_toArray, List.set_cons_zero, List.set_cons_succ]
                  refine wpAnyH_take (i := 17) (oi := _) (v := undef) (by simp only [List.getElem?_toArray, List.getElem?_cons_zero, List.getElem?_cons_succ]; rfl) (by kernel_rfl) (by kernel_rfl) (by kernel_rfl) (fun _ _ _ h => h) (Or.inr ⟨by rfl, rfl⟩) (by assumption) ?_
                  try simp only [Act.put, List.setIfInBounds_toArray, List.set_cons_zero, List.set_cons_succ]
                  refine wpAnyH_take (i := 18) (oi := _) (v := undef) (by simp only [List.getElem?_toArray, List.getElem?_cons_zero, List.getElem?_cons_succ]; rfl) (by kernel_rfl) (by kernel_rfl) (by kernel_rfl) (fun _ _ _ h => h) (Or.inr ⟨by rfl, rfl⟩) (by assumption) ?_
                  try simp only [Act.put, List.setIfInBounds_toArray, List.set_cons_zero, List.set_cons_succ]
                  refine wpAnyH_take (i := 19) (oi := _) (v := undef) (by simp only [List.getElem?_toArray, List.getElem?_cons_zero, List.getElem?_cons_succ]; rfl) (by kernel_rfl) (by kernel_rfl) (by kernel_rfl) (fun _ _ _ h => h) (Or.inr ⟨by rfl, rfl⟩) (by assumption) ?_
                  try simp only [Act.put, List.setIfInBounds_toArray, List.set_cons_zero, List.set_cons_succ]
                  refine wpAnyH_take (i := 20) (oi := _) (v := undef) (by simp only [List.getElem?_toArray, List.getElem?_cons_zero, List.getElem?_cons_succ]; rfl) (by kernel_rfl) (by kernel_rfl) (by kernel_rfl) (fun _ _ _ h => h) (Or.inr ⟨by rfl, rfl⟩) (by assumption) ?_
                  try simp only [Act.put, List.setIfInBounds_toArray, List.set_cons_zero, List.set_cons_succ]
                  refine wpAnyH_take (i := 21) (oi := _) (v := undef) (by simp only [List.getElem?_toArray, List.getElem?_cons_zero, List.getElem?_cons_succ]; rfl) (by kernel_rfl) (by kernel_rfl) (by kernel_rfl) (fun _ _ _ h => h) (Or.inr ⟨by rfl, rfl⟩) (by assumption) ?_
                  try simp only [Act.put, List.setIfInBounds_toArray, List.set_cons_zero, List.set_cons_succ]
                  refine wpAnyH_take (i := 22) (oi := _) (v := undef) (by simp only [List.getElem?_toArray, List.getElem?_cons_zero, List.getElem?_cons_succ]; rfl) (by kernel_rfl) (by kernel_rfl) (by kernel_rfl) (fun _ _ _ h => h) (Or.inr ⟨by rfl, rfl⟩) (by assumption) ?_
                  try simp only [Act.put, List.setIfInBounds_toArray, List.set_cons_zero, List.set_cons_succ]
                  refine wpAnyH_take (i := 23) (oi := _) (v := ?_) (by simp only [List.getElem?_toArray, List.getElem?_cons_zero, List.getElem?_cons_succ]; rfl) (by kernel_rfl) (by kernel_rfl) (by kernel_rfl) (fun _ _ _ h => h) (Or.inl ⟨by rfl, ?_⟩) (by assumption) ?_
                  rotate_left
                  · intro w hSw
                    try dsimp only at hSw
                    go_simp
                    all_goals (with_reducible rfl)
                  try simp only [Act.put, List.setIfInBounds_toArray, List.set_cons_zero, List.set_cons_succ]
                  refine wpAnyH_done (by kernel_rfl) ?_ _
                  refine NoPanic.normal ?_
                  go_wp2_with fail
                  go_meet
                  exact ⟨rfl, F1⟩
                exact AllReadyH.nil
              | false =>
                refine wp_region_noPanic ?_
                refine wp_region_held_drew (S := (fun w' => w'.cell? ⟨w.heap.size, 1, none⟩ = some (.string ⟨#[77, 73, 78]⟩) ∧ w'.cell? ⟨gl, j * 4, none⟩ = some (.int .i64 kt) ∧ w'.cell? ⟨gl, j * 4 + 1, none⟩ = some (.string tx) ∧ w'.cell? ⟨gl, j * 4 + 2, none⟩ = some (.string ty) ∧ w'.cell? ⟨gl, j * 4 + 3, none⟩ = some (.string tl) ∧ w'.cell? ⟨wo.heap.size, 0, none⟩ = some (.int .i64 ko) ∧ w'.cell? ⟨wo.heap.size, 1, none⟩ = some (.string ox) ∧ w'.cell? ⟨wo.heap.size, 2, none⟩ = some (.string oy) ∧ w'.cell? ⟨wo.heap.size, 3, none⟩ = some (.string ol))) (by kernel_rfl) ?_ (fun hHeld => ?_)
                · try dsimp only
                  exact HCE.out _ (Fr.refl (fun _ => False) wr).drew
                refine wpAnyH_take (i := 0) (oi := _) (v := ?_) (by simp only [List.getElem?_toArray, List.getElem?_cons_zero]; rfl) (by kernel_rfl) (by kernel_rfl) (by kernel_rfl) (fun _ _ _ h => h) (Or.inl ⟨by rfl, ?_⟩) (by assumption) ?_
                rotate_left
                · intro w hSw
                  try dsimp only at hSw
                  go_simp
                  all_goals (with_reducible rfl)
                try simp only [Act.put, List.setIfInBounds_toArray, List.set_cons_zero, List.set_cons_succ]
                refine wpAnyH_take (i := 1) (oi := _) (v := ?_) (by simp only [List.getElem?_toArray, List.getElem?_cons_zero, List.getElem?_cons_succ]; rfl) (by kernel_rfl) (by kernel_rfl) (by kernel_rfl) (fun _ _ _ h => h) (Or.inl ⟨by rfl, ?_⟩) (by assumption) ?_
                rotate_left
                · intro w hSw
                  try dsimp only at hSw
                  go_simp
                  all_goals (with_reducible rfl)
                try simp only [Act.put, List.setIfInBounds_toArray, List.set_cons_zero, List.set_cons_succ]
                refine wpAnyH_take (i := 2) (oi := _) (v := ?_) (by simp only [List.getElem?_toArray, List.getElem?_cons_zero, List.getElem?_cons_succ]; rfl) (by kernel_rfl) (by kernel_rfl) (by kernel_rfl) (fun _ _ _ h => h) (Or.inl ⟨by rfl, ?_⟩) (by assumption) ?_
                rotate_left
                · intro w hSw
                  try dsimp only at hSw
                  go_simp
                  all_goals (with_reducible rfl)
                try simp only [Act.put, List.setIfInBounds_toArray, List.set_cons_zero, List.set_cons_succ]
                refine wpAnyH_take (i := 3) (oi := _) (v := ?_) (by simp only [List.getElem?_toArray, List.getElem?_cons_zero, List.getElem?_cons_succ]; rfl) (by kernel_rfl) (by kernel_rfl) (by kernel_rfl) (fun _ _ _ h => h) (Or.inl ⟨by rfl, ?_⟩) (by assumption) ?_
                rotate_left
                · intro w hSw
                  try dsimp only at hSw
                  go_simp
                  all_goals (with_reducible rfl)
                try simp only [Act.put, List.setIfInBounds_toArray, List.set_cons_zero, List.set_cons_succ]
                refine wpAnyH_take (i := 4) (oi := _) (v := ?_) (by simp only [List.getElem?_toArray, List.getElem?_cons_zero, List.getElem?_cons_succ]; rfl) (by kernel_rfl) (by kernel_rfl) (by kernel_rfl) (fun _ _ _ h => h) (Or.inl ⟨by rfl, ?_⟩) (by assumption) ?_
                rotate_left
                · intro w hSw
                  try dsimp only at hSw
                  go_simp
                  all_goals (with_reducible rfl)
                try simp only [Act.put, List.setIfInBounds_toArray, List.set_cons_zero, List.set_cons_succ]
                refine wpAnyH_take (i := 5) (oi := _) (v := ?_) (by simp only [List.getElem?_toArray, List.getElem?_cons_zero, List.getElem?_cons_succ]; rfl) (by kernel_rfl) (by kernel_rfl) (by kernel_rfl) (fun _ _ _ h => h) (Or.inl ⟨by rfl, ?_⟩) (by assumption) ?_
                rotate_left
                · intro w hSw
                  try dsimp only at hSw
                  go_simp
                  all_goals (with_reducible rfl)
                try simp only [Act.put, List.setIfInBounds_toArray, List.set_cons_zero, List.set_cons_succ]
                refine wpAnyH_take (i := 6) (oi := _) (v := ?_) (by simp only [List.getElem?_toArray, List.getElem?_cons_zero, List.getElem?_cons_succ]; rfl) (by kernel_rfl) (by kernel_rfl) (by kernel_rfl) (fun _ _ _ h => h) (Or.inl ⟨by rfl, ?_⟩) (by assumption) ?_
                rotate_left
                · intro w hSw
                  try dsimp only at hSw
                  go_simp
                  all_goals (with_reducible rfl)
                try simp only [Act.put, List.setIfInBounds_toArray, List.set_cons_zero, List.set_cons_succ]
                refine wpAnyH_take (i := 7) (oi := _) (v := ?_) (by simp only [List.getElem?_toArray, List.getElem?_cons_zero, List.getElem?_cons_succ]; rfl) (by kernel_rfl) (by kernel_rfl) (by kernel_rfl) (fun _ _ _ h => h) (Or.inl ⟨by rfl, ?_⟩) (by assumption) ?_
                rotate_left
                · intro w hSw
                  try dsimp only at hSw
                  go_simp
                  all_goals (with_reducible rfl)
                try simp only [Act.put, List.setIfInBounds_toArray, List.set_cons_zero, List.set_cons_succ]
                refine wpAnyH_take (i := 8) (oi := _) (v := ?_) (by simp only [List.getElem?_toArray, List.getElem?_cons_zero, List.getElem?_cons_succ]; rfl) (by kernel_rfl) (by kernel_rfl) (by kernel_rfl) (fun _ _ _ h => h) (Or.inl ⟨by rfl, ?_⟩) (by assumption) ?_
                rotate_left
                · intro w hSw
                  try dsimp only at hSw
                  go_simp
                  all_goals (with_reducible rfl)
                try simp only [Act.put, List.setIfInBounds_toArray, List.set_cons_zero, List.set_cons_succ]
                refine wpAnyH_ready (rs := [9]) (by kernel_rfl) (by simp) ?_
                refine AllReadyH.cons (o := _) (by simp only [List.getElem?_toArray, List.getElem?_cons_zero, List.getElem?_cons_succ]; rfl) (fun K hK => ?_) ?_
                · skip
                  go_simp
                  go_at_call 36
                  refine (HLS.out _).mono ?_
                  rintro e w1 ⟨rfl, hf1⟩
                  have F1 : Fr (fun _ => False) wr w1 := ((Fr.refl (fun _ => False) wr).drew).trans' hf1
                  refine hK.out _ _ ?_ (fun hHeld => ?_)
                  · try dsimp only
                    exact HCE.out _ F1
                  clear hK K
                  try simp only [Act.put, List.setIfInBounds_toArray, List.set_cons_zero, List.set_cons_succ]
                  refine wpAnyH_take (i := 10) (oi := _) (v := ?_) (by simp only [List.getElem?_toArray, List.getElem?_cons_zero, List.getElem?_cons_succ]; rfl) (by kernel_rfl) (by kernel_rfl) (by kernel_rfl) (fun _ _ _ h => h) (Or.inl ⟨by rfl, ?_⟩) (by assumption) ?_
                  rotate_left
                  · intro w hSw
                    try dsimp only at hSw
                    go_simp
                    all_goals (with_reducible rfl)
                  try simp only [Act.put, List.setIfInBounds_toArray, List.set_cons_zero, List.set_cons_succ]
                  refine wpAnyH_take (i := 11) (oi := _) (v := ?_) (by simp only [List.getElem?_toArray, List.getElem?_cons_zero, List.getElem?_cons_succ]; rfl) (by kernel_rfl) (by kernel_rfl) (by kernel_rfl) (fun _ _ _ h => h) (Or.inl ⟨by rfl, ?_⟩) (by assumption) ?_
                  rotate_left
                  · intro w hSw
                    try dsimp only at hSw
                    go_simp
                    all_goals (with_reducible rfl)
                  try simp only [Act.put, List.setIfInBounds_toArray, List.set_cons_zero, List.set_cons_succ]
                  refine wpAnyH_take (i := 12) (oi := _) (v := ?_) (by simp only [List.getElem?_toArray, List.getElem?_cons_zero, List.getElem?_cons_succ]; rfl) (by kernel_rfl) (by kernel_rfl) (by kernel_rfl) (fun _ _ _ h => h) (Or.inl ⟨by rfl, ?_⟩) (by assumption) ?_
                  rotate_left
                  · intro w hSw
                    try dsimp only at hSw
                    go_simp
                    all_goals (with_reducible rfl)
                  try simp only [Act.put, List.setIfInBounds_toArray, List.set_cons_zero, List.set_cons_succ]
                  refine wpAnyH_take (i := 13) (oi := _) (v := ?_) (by simp only [List.getElem?_toArray, List.getElem?_cons_zero, List.getElem?_cons_succ]; rfl) (by kernel_rfl) (by kernel_rfl) (by kernel_rfl) (fun _ _ _ h => h) (Or.inl ⟨by rfl, ?_⟩) (by assumption) ?_
                  rotate_left
                  · intro w hSw
                    try dsimp only at hSw
                    go_simp
                    all_goals (with_reducible rfl)
                  try simp only [Act.put, List.setIfInBounds_toArray, List.set_cons_zero, List.set_cons_succ]
                  refine wpAnyH_take (i := 14) (oi := _) (v := ?_) (by simp only [List.getElem?_toArray, List.getElem?_cons_zero, List.getElem?_cons_succ]; rfl) (by kernel_rfl) (by kernel_rfl) (by kernel_rfl) (fun _ _ _ h => h) (Or.inl ⟨by rfl, ?_⟩) (by assumption) ?_
                  rotate_left
                  · intro w hSw
                    try dsimp only at hSw
                    go_simp
                    all_goals (with_reducible rfl)
                  try simp only [Act.put, List.setIfInBounds_toArray, List.set_cons_zero, List.set_cons_succ]
                  refine wpAnyH_take (i := 15) (oi := _) (v := ?_) (by simp only [List.getElem?_toArray, List.getElem?_cons_zero, List.getElem?_cons_succ]; rfl) (by kernel_rfl) (by kernel_rfl) (by kernel_rfl) (fun _ _ _ h => h) (Or.inl ⟨by rfl, ?_⟩) (by assumption) ?_
                  rotate_left
                  · intro w hSw
                    try dsimp only at hSw
                    go_simp
                    all_goals (with_reducible rfl)
                  try simp only [Act.put, List.setIfInBounds_toArray, List.set_cons_zero, List.set_cons_succ]
                  refine wpAnyH_take (i := 16) (oi := _) (v := undef) (by simp only [List.getElem?_toArray, List.getElem?_cons_zero, List.getElem?_cons_succ]; rfl) (by kernel_rfl) (by kernel_rfl) (by kernel_rfl) (fun _ _ _ h => h) (Or.inr ⟨by rfl, rfl⟩) (by assumption) ?_
                  try simp only [Act.put, List.setIfInBounds_toArray, List.set_cons_zero, List.set_cons_succ]
                  refine wpAnyH_take (i := 17) (oi := _) (v := undef) (by simp only [List.getElem?_toArray, List.getElem?_cons_zero, List.getElem?_cons_succ]; rfl) (by kernel_rfl) (by kernel_rfl) (by kernel_rfl) (fun _ _ _ h => h) (Or.inr ⟨by rfl, rfl⟩) (by assumption) ?_
                  try simp only [Act.put, List.setIfInBounds_toArray, List.set_cons_zero, List.set_cons_succ]
                  refine wpAnyH_take (i := 18) (oi := _) (v := undef) (by simp only [List.getElem?_toArray, List.getElem?_cons_zero, List.getElem?_cons_succ]; rfl) (by kernel_rfl) (by kernel_rfl) (by kernel_rfl) (fun _ _ _ h => h) (Or.inr ⟨by rfl, rfl⟩) (by assumption) ?_
                  try simp only [Act.put, List.setIfInBounds_toArray, List.set_cons_zero, List.set_cons_succ]
                  refine wpAnyH_take (i := 19) (oi := _) (v := undef) (by simp only [List.getElem?_toArray, List.getElem?_cons_zero, List.getElem?_cons_succ]; rfl) (by kernel_rfl) (by kernel_rfl) (by kernel_rfl) (fun _ _ _ h => h) (Or.inr ⟨by rfl, rfl⟩) (by assumption) ?_
                  try simp only [Act.put, List.setIfInBounds_toArray, List.set_cons_zero, List.set_cons_succ]
                  refine wpAnyH_take (i := 20) (oi := _) (v := undef) (by simp only [List.getElem?_toArray, List.getElem?_cons_zero, List.getElem?_cons_succ]; rfl) (by kernel_rfl) (by kernel_rfl) (by kernel_rfl) (fun _ _ _ h => h) (Or.inr ⟨by rfl, rfl⟩) (by assumption) ?_
                  try simp only [Act.put, List.setIfInBounds_toArray, List.set_cons_zero, List.set_cons_succ]
                  refine wpAnyH_take (i := 21) (oi := _) (v := undef) (by simp only [List.getElem?_toArray, List.getElem?_cons_zero, List.getElem?_cons_succ]; rfl) (by kernel_rfl) (by kernel_rfl) (by kernel_rfl) (fun _ _ _ h => h) (Or.inr ⟨by rfl, rfl⟩) (by assumption) ?_
                  try simp only [Act.put, List.setIfInBounds_toArray, List.set_cons_zero, List.set_cons_succ]
                  refine wpAnyH_take (i := 22) (oi := _) (v := ?_) (by simp only [List.getElem?_toArray, List.getElem?_cons_zero, List.getElem?_cons_succ]; rfl) (by kernel_rfl) (by kernel_rfl) (by kernel_rfl) (fun _ _ _ h => h) (Or.inl ⟨by rfl, ?_⟩) (by assumption) ?_
                  rotate_left
                  · intro w hSw
                    try dsimp only at hSw
                    go_simp
                    all_goals (with_reducible rfl)
                  try simp only [Act.put, List.setIfInBounds_toArray, List.set_cons_zero, List.set_cons_succ]
                  refine wpAnyH_take (i := 23) (oi := _) (v := ?_) (by simp only [List.getElem?_toArray, List.getElem?_cons_zero, List.getElem?_cons_succ]; rfl) (by kernel_rfl) (by kernel_rfl) (by kernel_rfl) (fun _ _ _ h => h) (Or.inl ⟨by rfl, ?_⟩) (by assumption) ?_
                  rotate_left
                  · intro w hSw
                    try dsimp only at hSw
                    go_simp
                    all_goals (with_reducible rfl)
                  try simp only [Act.put, List.setIfInBounds_toArray, List.set_cons_zero, List.set_cons_succ]
                  refine wpAnyH_done (by kernel_rfl) ?_ _
                  refine NoPanic.normal ?_
                  go_wp2_with fail
                  go_meet
                  exact ⟨rfl, F1⟩
                exact AllReadyH.nil
            case rest =>
              obtain ⟨rfl, hfc⟩ := hcut
              obtain ⟨s0, s1, s2, s3, s4, s5, s6, s7, s8⟩ := HCE.out _ hfc
              have hbc := HBL.out.fr hfc (fun h => h)
              have HBC := Lib.hid hbc
              have HFC := Lib.hid (HFQ.out.trans' hfc)
              have f0 := hbc.frozen 0
              have f1 := hbc.frozen 1
              have f2 := hbc.frozen 2
              have f3 := hbc.frozen 3
              clear hfc hbc
              cases b with
              | true =>
                go_wp2_with fail
                go_roundw
                case rel => exact ⟨j + 1, by go_num, hjm, by rw [HST.out, if_pos rfl]; exact (((HBC.out.set_ 0 (.int .i64 kt)).set_ 1 (.string tx)).set_ 2 (.string ty)).set_ 3 (.string tl), (((HFC.out.setCell ⟨wo.heap.size, 0, none⟩ (fun h => absurd h (Nat.lt_irrefl _)) (.int .i64 kt)).setCell ⟨wo.heap.size, 1, none⟩ (fun h => absurd h (Nat.lt_irrefl _)) (.string tx)).setCell ⟨wo.heap.size, 2, none⟩ (fun h => absurd h (Nat.lt_irrefl _)) (.string ty)).setCell ⟨wo.heap.size, 3, none⟩ (fun h => absurd h (Nat.lt_irrefl _)) (.string tl)⟩
                case measure => simp only [intOf]; omega
              | false =>
                go_wp2_with fail
                go_roundw
                case rel => exact ⟨j + 1, by go_num, hjm, by rw [HST.out, if_neg (by decide)]; exact HBC.out, HFC.out⟩
                case measure => simp only [intOf]; omega
          · have hjm' : decide (j < m) = false := by simpa using hjm
            have e : j = m := by omega
            have HE := Lib.hid e
            obtain ⟨ko, ox, oy, ol⟩ := oo
            unfold DT.cells at hbl HBL
            dsimp only at hbl HBL
            have b0 := hbl.cell 0
            have b1 := hbl.cell 1
            have b2 := hbl.cell 2
            have b3 := hbl.cell 3
            simp only [List.getElem?_toArray, List.getElem?_cons_zero, List.getElem?_cons_succ] at b0 b1 b2 b3
            have p0 := hzq.cell 0
            have p1 := hzq.cell 1
            have p2 := hzq.cell 2
            have p3 := hzq.cell 3
            have q0 := hzq.frozen 0
            have q1 := hzq.frozen 1
            have q2 := hzq.frozen 2
            have q3 := hzq.frozen 3
            simp only [List.getElem?_toArray, List.getElem?_cons_zero, List.getElem?_cons_succ] at p0 p1 p2 p3
            clear e hoo hbl hfq hzq hxq
            go_wp2_with fail
            rw [HSOME.out, ← HE.out, HOO.out]
            unfold GetPost DT.cells
            dsimp only
            exact bodyPost_ret (v := .tuple #[.agg #[.int .i64 ko, .string ox, .string oy, .string ol], .bool true]) (results_c2 rfl _ _ (w.heap.size + 1) 41 _ (0, 0) _ rfl (show Blk _ (w.heap.size + 1) 41 #[.int .i64 ko, .string ox, .string oy, .string ol] from ((((HZQ.out.set_ 0 (.int .i64 ko)).set_ 1 (.string ox)).set_ 2 (.string oy)).set_ 3 (.string ol))) Tryz.underlying41 rfl (by kernel_rfl) _ rfl) rfl ⟨((((HFW.out.setCell ⟨w.heap.size + 1, 0, none⟩ (fun h => absurd h (by simp)) (.int .i64 ko)).setCell ⟨w.heap.size + 1, 1, none⟩ (fun h => absurd h (by simp)) (.string ox)).setCell ⟨w.heap.size + 1, 2, none⟩ (fun h => absurd h (by simp)) (.string oy)).setCell ⟨w.heap.size + 1, 3, none⟩ (fun h => absurd h (by simp)) (.string ol)), rfl⟩

set_option maxRecDepth 100000 in
set_option maxHeartbeats 4000000 in
theorem dfoldX_any (B : Nat) (v0 v : ByteArray) (vr : Value) (vals : List Value) (refs : List (List BD)) (w : World) (hv : (v.toList == [42]) = false) (hn : refs.length ≤ 100) (hb : ∀ i, i < refs.length → (refs.getD i []).length ≤ 100) (hr : RefsAt w B vr vals refs) :
    Calls Tryz.prog 9 #[.agg #[.string v0, .string ⟨#[77, 65, 88]⟩, .string v], vr] w (GetPost (dpickO (fun x m => dLess m x) (dTerms refs v refs.length)) w) := by
  obtain ⟨A0, c0, rfl⟩ := row_shape hr.own
  obtain ⟨i41, hi41, hz410, hz411, hz412⟩ := info_parts info41
  have HR := Lib.hid hr
  have HB := Lib.hid hb
  have HDL := Lib.hid (dTerms_le refs v)
  obtain ⟨dl, hdle⟩ : ∃ dl, dTerms refs v refs.length = dl := ⟨_, rfl⟩
  rw [hdle]
  have hdln : dl.length ≤ refs.length := by rw [← hdle]; exact dTerms_le refs v _
  have HDLE := Lib.hid hdle
  clear hdle
  obtain ⟨n, hnn⟩ : ∃ n, refs.length = n := ⟨_, rfl⟩
  have HN := Lib.hid hnn
  rw [hnn] at hn hdln ⊢
  obtain ⟨m, hm⟩ : ∃ m, dl.length = m := ⟨_, rfl⟩
  rw [hm] at hdln
  try rw [hm]
  have HM := Lib.hid hm
  clear hm
  have hBX := (Blk.new w 35 #[.string v0, .string ⟨#[77, 65, 88]⟩, .string v]).alloc (.cells #[.int .i64 0, .string ⟨#[]⟩, .string ⟨#[]⟩, .string ⟨#[]⟩] 41)
  have hZ := Blk.new (w.alloc (.cells #[.string v0, .string ⟨#[77, 65, 88]⟩, .string v] 35)) 41 #[.int .i64 0, .string ⟨#[]⟩, .string ⟨#[]⟩, .string ⟨#[]⟩]
  rw [show (w.alloc (.cells #[.string v0, .string ⟨#[77, 65, 88]⟩, .string v] 35)).heap.size = w.heap.size + 1 by simp] at hZ
  have HBX := Lib.hid hBX
  have HZ := Lib.hid hZ
  have hv2 : (v.toList != [42]) = true := by rw [bne, hv]; rfl
  clear hr hb hnn hBX hZ
  go_enter Tryz.func9, Tryz.ntmps9
  go_wp2_with fail
  go_loopw [6, 25] (fun lv iv wr => ∃ (i : Nat), iv = .int .i64 (i : Int) ∧ i ≤ n ∧ TRow wr (w.heap.size + 2) lv (dTerms refs v i) ∧ Blk wr w.heap.size 35 #[.string v0, .string ⟨#[77, 65, 88]⟩, .string v] ∧ Blk wr (w.heap.size + 1) 41 #[.int .i64 0, .string ⟨#[]⟩, .string ⟨#[]⟩, .string ⟨#[]⟩] ∧ Fr (fun _ => False) w wr ∧ w.heap.size + 2 ≤ wr.heap.size) (fun _ iv _ => n - (intOf iv).toNat)
  case atStart => exact ⟨0, rfl, Nat.zero_le _, TRow.nil _ _, HBX.out, HZ.out, ((Fr.refl _ _).alloc _).alloc _, by simp⟩
  case round =>
    obtain ⟨i, rfl, hi, hrow, hbx, hz, hf, hsz⟩ := hrel
    have HROW := Lib.hid hrow
    have HX := Lib.hid hbx
    have HZR := Lib.hid hz
    have HF := Lib.hid hf
    have x1 : wr.cell? ⟨w.heap.size, 1, none⟩ = some (.string ⟨#[77, 65, 88]⟩) := hbx.cell 1
    have x2 : wr.cell? ⟨w.heap.size, 2, none⟩ = some (.string v) := hbx.cell 2
    obtain ⟨Al, cl, rfl⟩ := row_shape hrow
    have hdl := HDL.out i
    by_cases hlt : i < n
    · have hlt' : decide (i < n) = true := by simpa using hlt
      have hrr := HR.out.frF hf
      have hown := hrr.own
      rw [HN.out] at hown
      obtain ⟨ga, rfl, _, _, _⟩ := row_form hown (by omega)
      have hck : wr.cell? ⟨ga, i, none⟩ = some (vals.getD i undef) := by
        rw [World.ownsRow.cellAt hown i (by omega), List.getD_eq_getElem?_getD, List.getElem?_eq_getElem (by have := hrr.len; rw [HN.out] at this; omega)]; rfl
      have hgl := (hown.lt ga rfl).2
      have HGET := Lib.hid (fun wy (hf : Fr (fun _ => False) wr wy) => get_any B (refs.getD i []) (vals.getD i undef) v wy (HB.out i (by rw [HN.out]; exact hlt)) ((hrr.frF hf).each i (by rw [HN.out]; exact hlt)))
      have hS := hown.1
      have HOWN := Lib.hid hown
      have HCK := Lib.hid (fun (w' : World) (hf : Fr (fun _ => False) wr w') => (⟨cell_fr hf hck, (hbx.fr hf (fun h => h)).cell 2⟩ : w'.cell? ⟨ga, i, none⟩ = some (vals.getD i undef) ∧ w'.cell? ⟨w.heap.size, 2, none⟩ = some (.string v)))
      clear hown hrr hS hrow hbx hz hf
      generalize vals.getD i undef = vi at *
      obtain ⟨o, ho⟩ : ∃ o, getB (refs.getD i []) v (refs.getD i []).length = o := ⟨_, rfl⟩
      have HO := Lib.hid ho
      rw [ho] at HGET
      clear ho
      have hgeb : w.heap.size < wr.heap.size := by omega
      go_upto_region 7 with (fail)
      go_cut [8, 9] from 28 to 37 (fun p q wx => ∃ g8 : Nat, p = .pointer (some ⟨g8, 0, none⟩) ∧ q = .bool o.isSome ∧ wr.heap.size ≤ g8 ∧ Blk wx g8 41 (o.getD dt0).cells ∧ Fr (fun _ => False) wr wx)
      case first =>
        cases o with
        | none =>
          unfold GetPost at HGET
          dsimp only at HGET
          go_region_held3 (fun w' => w'.cell? ⟨ga, i, none⟩ = some vi ∧ w'.cell? ⟨w.heap.size, 2, none⟩ = some (.string v))
            (first | exact HCK.out _ (F4 _ _ _ _) | exact HCK.out _ F1 | exact HCK.out _ (F1.alloc _) | exact HCK.out _ (Fr.refl (fun _ => False) wr).drew | exact HCK.out _ ((Fr.refl (fun _ => False) wr).alloc _).drew)
            (first
              | (go_at_call 32; refine (HGET.out _ ((Fr.refl (fun _ => False) wr).alloc _).drew).mono ?_; rintro e w1 ⟨hf1, rfl⟩; have F1 : Fr (fun _ => False) wr w1 := (((Fr.refl (fun _ => False) wr).alloc _).drew).trans' hf1; have hb8 : Blk w1 wr.heap.size 41 _ := ((Blk.new wr 41 #[.int .i64 0, .string ⟨#[]⟩, .string ⟨#[]⟩, .string ⟨#[]⟩]).drew).fr hf1 (fun h => h); have k0 := hb8.cell 0; have k1 := hb8.cell 1; have k2 := hb8.cell 2; have k3 := hb8.cell 3; have z0 := hb8.frozen 0; have z1 := hb8.frozen 1; have z2 := hb8.frozen 2; have z3 := hb8.frozen 3; simp only [List.getElem?_toArray, List.getElem?_cons_zero, List.getElem?_cons_succ] at k0 k1 k2 k3; have F4 : ∀ u0 u1 u2 u3, Fr (fun _ => False) wr ((((w1.setCell ⟨wr.heap.size, 0, none⟩ u0).setCell ⟨wr.heap.size, 1, none⟩ u1).setCell ⟨wr.heap.size, 2, none⟩ u2).setCell ⟨wr.heap.size, 3, none⟩ u3) := (fun u0 u1 u2 u3 => (((F1.setCell ⟨wr.heap.size, 0, none⟩ (fun h => absurd h (Nat.lt_irrefl _)) u0).setCell ⟨wr.heap.size, 1, none⟩ (fun h => absurd h (Nat.lt_irrefl _)) u1).setCell ⟨wr.heap.size, 2, none⟩ (fun h => absurd h (Nat.lt_irrefl _)) u2).setCell ⟨wr.heap.size, 3, none⟩ (fun h => absurd h (Nat.lt_irrefl _)) u3))
              | (go_at_call 32; refine (HGET.out _ (Fr.refl (fun _ => False) wr).drew).mono ?_; rintro e w1 ⟨hf1, rfl⟩; have F1 : Fr (fun _ => False) wr w1 := ((Fr.refl (fun _ => False) wr).drew).trans' hf1))
          all_goals
            go_wp2_with fail
            go_meet
            first
              | exact ⟨wr.heap.size, rfl, rfl, Nat.le_refl _, (((hb8.set_ 0 (.int .i64 0)).set_ 1 (.string ⟨#[]⟩)).set_ 2 (.string ⟨#[]⟩)).set_ 3 (.string ⟨#[]⟩), F4 _ _ _ _⟩
              | exact ⟨w1.heap.size, rfl, rfl, F1.size, Blk.new w1 41 #[.int .i64 0, .string ⟨#[]⟩, .string ⟨#[]⟩, .string ⟨#[]⟩], F1.alloc _⟩
        | some t =>
          obtain ⟨kt, tx, ty, tl⟩ := t
          unfold GetPost DT.cells at HGET
          dsimp only at HGET
          go_region_held3 (fun w' => w'.cell? ⟨ga, i, none⟩ = some vi ∧ w'.cell? ⟨w.heap.size, 2, none⟩ = some (.string v))
            (first | exact HCK.out _ (F4 _ _ _ _) | exact HCK.out _ F1 | exact HCK.out _ (F1.alloc _) | exact HCK.out _ (Fr.refl (fun _ => False) wr).drew | exact HCK.out _ ((Fr.refl (fun _ => False) wr).alloc _).drew)
            (first
              | (go_at_call 32; refine (HGET.out _ ((Fr.refl (fun _ => False) wr).alloc _).drew).mono ?_; rintro e w1 ⟨hf1, rfl⟩; have F1 : Fr (fun _ => False) wr w1 := (((Fr.refl (fun _ => False) wr).alloc _).drew).trans' hf1; have hb8 : Blk w1 wr.heap.size 41 _ := ((Blk.new wr 41 #[.int .i64 0, .string ⟨#[]⟩, .string ⟨#[]⟩, .string ⟨#[]⟩]).drew).fr hf1 (fun h => h); have k0 := hb8.cell 0; have k1 := hb8.cell 1; have k2 := hb8.cell 2; have k3 := hb8.cell 3; have z0 := hb8.frozen 0; have z1 := hb8.frozen 1; have z2 := hb8.frozen 2; have z3 := hb8.frozen 3; simp only [List.getElem?_toArray, List.getElem?_cons_zero, List.getElem?_cons_succ] at k0 k1 k2 k3; have F4 : ∀ u0 u1 u2 u3, Fr (fun _ => False) wr ((((w1.setCell ⟨wr.heap.size, 0, none⟩ u0).setCell ⟨wr.heap.size, 1, none⟩ u1).setCell ⟨wr.heap.size, 2, none⟩ u2).setCell ⟨wr.heap.size, 3, none⟩ u3) := (fun u0 u1 u2 u3 => (((F1.setCell ⟨wr.heap.size, 0, none⟩ (fun h => absurd h (Nat.lt_irrefl _)) u0).setCell ⟨wr.heap.size, 1, none⟩ (fun h => absurd h (Nat.lt_irrefl _)) u1).setCell ⟨wr.heap.size, 2, none⟩ (fun h => absurd h (Nat.lt_irrefl _)) u2).setCell ⟨wr.heap.size, 3, none⟩ (fun h => absurd h (Nat.lt_irrefl _)) u3))
              | (go_at_call 32; refine (HGET.out _ (Fr.refl (fun _ => False) wr).drew).mono ?_; rintro e w1 ⟨hf1, rfl⟩; have F1 : Fr (fun _ => False) wr w1 := ((Fr.refl (fun _ => False) wr).drew).trans' hf1))
          all_goals
            go_wp2_with fail
            go_meet
            first
              | exact ⟨wr.heap.size, rfl, rfl, Nat.le_refl _, (((hb8.set_ 0 (.int .i64 kt)).set_ 1 (.string tx)).set_ 2 (.string ty)).set_ 3 (.string tl), F4 _ _ _ _⟩
              | exact ⟨w1.heap.size, rfl, rfl, F1.size, Blk.new w1 41 #[.int .i64 kt, .string tx, .string ty, .string tl], F1.alloc _⟩
      case rest =>
        obtain ⟨g8, rfl, rfl, hg8, hb8, hf8⟩ := hcut
        have HF8 := Lib.hid hf8
        have HB8 := Lib.hid hb8
        have hs8 := hf8.size
        have hg8b := hb8.lt
        cases o with
        | none =>
          have HST := Lib.hid (dTerms_none HO.out)
          dsimp only [Option.isSome]
          clear hf8 hb8
          go_wp2_with fail
          go_roundw
          case rel => exact ⟨i + 1, by go_num, hlt, by rw [HST.out]; exact HROW.out.fr HF8.out, HX.out.fr HF8.out (fun h => h), HZR.out.fr HF8.out (fun h => h), HF.out.trans' HF8.out, by omega⟩
          case measure => simp only [intOf]; omega
        | some t =>
          have HST := Lib.hid (dTerms_some HO.out)
          obtain ⟨kt, tx, ty, tl⟩ := t
          dsimp only [Option.isSome, Option.getD, DT.cells] at hb8 ⊢
          have k0 := hb8.cell 0
          have k1 := hb8.cell 1
          have k2 := hb8.cell 2
          have k3 := hb8.cell 3
          simp only [List.getElem?_toArray, List.getElem?_cons_zero, List.getElem?_cons_succ] at k0 k1 k2 k3
          generalize hdn : (dTerms refs v i).length = m at *
          have HDN := Lib.hid hdn
          clear hdn hf8 hb8
          have HROW2 : Hid (wc.ownsRow (w.heap.size + 2) 41 4 (.slice Al m cl) m (tcells (dTerms refs v i))) := Lib.hid (by
            have h := HROW.out.fr HF8.out
            unfold TRow at h
            rw [HDN.out] at h
            exact h)
          go_wp2_with (at_builtin; refine wpList_append_own_at _ rfl _ _ 85 rfl (w.heap.size + 2) 41 i41 _ 4 56 Tryz.underlying85 hi41 hz410 hz411 hz412 rfl (by decide) _ m (tcells (dTerms refs v i)) (by rfl) (HROW2.out.alloc _) ⟨wc.heap.size, 0, none⟩ 1 1 [.int .i64 kt, .string tx, .string ty, .string tl] (by rfl) rfl (World.news_of_block (heap_alloc_new wc _)) (by intro u hu; simp only [List.mem_cons, List.not_mem_nil, or_false] at hu; rcases hu with rfl | rfl | rfl | rfl <;> rfl) (by unfold maxLen; omega) (by omega) (by simp; omega) ?_; intro v6 w6 hown6 hgr6 _ hat6; obtain ⟨A6, c6, hv6⟩ := row_shape hown6; subst hv6)
          have F6 : Fr (fun j => (Value.slice Al m cl).ownBlock = some j) wc w6 := ((Fr.refl _ _).alloc _).trans (Fr.of_grown hgr6) (fun _ _ h => h)
          have HX6 := Lib.hid ((HX.out.fr HF8.out (fun h => h)).fr F6 (fun h => absurd (HROW2.out.lt _ h).1 (by omega)))
          have HZ6 := Lib.hid ((HZR.out.fr HF8.out (fun h => h)).fr F6 (fun h => absurd (HROW2.out.lt _ h).1 (by omega)))
          have HF6 := Lib.hid ((HF.out.trans' HF8.out).trans F6 (fun j hj h => absurd (HROW2.out.lt j h).1 (by omega)))
          have hs6 := F6.size
          have HO6 : Hid (TRow w6 (w.heap.size + 2) (.slice A6 (m + 1) c6) (dTerms refs v i ++ [⟨kt, tx, ty, tl⟩])) := Lib.hid (by
            unfold TRow
            rw [List.length_append, HDN.out, tcells_append]
            exact hown6)
          clear hown6 hgr6 hat6 F6
          go_wp2_with fail
          go_roundw
          case rel => exact ⟨i + 1, by go_num, hlt, by rw [HST.out]; exact HO6.out, HX6.out, HZ6.out, HF6.out, by omega⟩
          case measure => simp only [intOf]; omega
    · have hlt' : decide (i < n) = false := by simpa using hlt
      have e : i = n := by omega
      have hdd : dTerms refs v i = dl := by rw [e, ← HN.out]; exact HDLE.out
      rw [hdd] at HROW hdl ⊢
      rw [HM.out] at HROW ⊢
      clear hdd e hrow hbx hz hf hdl
      obtain ⟨wo, rfl⟩ : ∃ wo, wo = wr := ⟨wr, rfl⟩
      by_cases hm0 : m = 0
      · subst hm0
        have hno : dpickO (fun x m => dLess m x) dl = none := if_pos HM.out
        have HNO := Lib.hid hno
        have hzo := HZR.out
        have p0 := hzo.cell 0
        have p1 := hzo.cell 1
        have p2 := hzo.cell 2
        have p3 := hzo.cell 3
        have q0 := hzo.frozen 0
        have q1 := hzo.frozen 1
        have q2 := hzo.frozen 2
        have q3 := hzo.frozen 3
        simp only [List.getElem?_toArray, List.getElem?_cons_zero, List.getElem?_cons_succ] at p0 p1 p2 p3
        clear hno hzo
        go_wp2_with fail
        rw [HNO.out]
        unfold GetPost
        dsimp only
        exact bodyPost_ret (v := .tuple #[.agg #[.int .i64 0, .string ⟨#[]⟩, .string ⟨#[]⟩, .string ⟨#[]⟩], .bool false]) (results_c2 rfl _ _ (w.heap.size + 1) 41 _ (0, 0) _ rfl (show Blk _ (w.heap.size + 1) 41 #[.int .i64 0, .string ⟨#[]⟩, .string ⟨#[]⟩, .string ⟨#[]⟩] from ((((HZR.out.set_ 0 (.int .i64 0)).set_ 1 (.string ⟨#[]⟩)).set_ 2 (.string ⟨#[]⟩)).set_ 3 (.string ⟨#[]⟩))) Tryz.underlying41 rfl (by kernel_rfl) _ rfl) rfl ⟨((((HF.out.setCell ⟨w.heap.size + 1, 0, none⟩ (fun h => absurd h (by simp)) (.int .i64 0)).setCell ⟨w.heap.size + 1, 1, none⟩ (fun h => absurd h (by simp)) (.string ⟨#[]⟩)).setCell ⟨w.heap.size + 1, 2, none⟩ (fun h => absurd h (by simp)) (.string ⟨#[]⟩)).setCell ⟨w.heap.size + 1, 3, none⟩ (fun h => absurd h (by simp)) (.string ⟨#[]⟩)), rfl⟩
      · have hm1 : ((m : Int) == 0) = false := by simp [hm0]
        have hsome : dpickO (fun x m => dLess m x) dl = some (dPick (fun x m => dLess m x) dl m) := by
          unfold dpickO
          rw [if_neg (by rw [HM.out]; exact hm0), HM.out]
        have HSOME := Lib.hid hsome
        obtain ⟨gl, hAl, e0, e1, e2, e3⟩ := HROW.out.at_ HM.out 0 (by omega)
        subst hAl
        have HP0 := Lib.hid (show dPick (fun x m => dLess m x) dl 0 = dl.getD 0 dt0 from rfl)
        obtain ⟨xx, hxx⟩ : ∃ xx, dl.getD 0 dt0 = xx := ⟨_, rfl⟩
        rw [hxx] at e0 e1 e2 e3 HP0
        obtain ⟨kt, tx, ty, tl⟩ := xx
        simp only [Nat.zero_mul, Nat.zero_add] at e0 e1 e2 e3
        have HB0 := Lib.hid (Blk.new wo 41 #[.int .i64 kt, .string tx, .string ty, .string tl])
        clear hsome hxx
        go_wp2_with fail
        go_loopw [90] (fun jv wq => ∃ (j : Nat), jv = .int .i64 (j : Int) ∧ j ≤ m ∧ Blk wq wo.heap.size 41 (dPick (fun x m => dLess m x) dl j).cells ∧ Fr (fun _ => False) wo wq) (fun jv _ => m - (intOf jv).toNat)
        case atStart => exact ⟨0, rfl, Nat.zero_le _, by rw [HP0.out]; exact HB0.out, (Fr.refl _ _).alloc _⟩
        case round =>
          clear e0 e1 e2 e3
          obtain ⟨j, rfl, hj, hbl, hfq⟩ := hrel
          have HFQ := Lib.hid hfq
          have HBL := Lib.hid hbl
          have hzq := HZR.out.fr hfq (fun h => h)
          have HZQ := Lib.hid hzq
          have HFW := Lib.hid (HF.out.trans' hfq)
          have hxq := HX.out.fr hfq (fun h => h)
          obtain ⟨oo, hoo⟩ : ∃ oo, dPick (fun x m => dLess m x) dl j = oo := ⟨_, rfl⟩
          have HOO := Lib.hid hoo
          rw [hoo] at hbl HBL
          by_cases hjm : j < m
          · have hjm' : decide (j < m) = true := by simpa using hjm
            obtain ⟨gl2, hgl2, e0, e1, e2, e3⟩ := (HROW.out.fr hfq).at_ HM.out j hjm
            obtain rfl : gl = gl2 := by
              have h := Option.some.inj hgl2
              exact congrArg Addr.block h
            have hst := dPick_step (fun x m => dLess m x) dl j
            obtain ⟨xx, hxx⟩ : ∃ xx, dl.getD j dt0 = xx := ⟨_, rfl⟩
            rw [hxx, hoo] at hst
            rw [hxx] at e0 e1 e2 e3
            obtain ⟨kt, tx, ty, tl⟩ := xx
            obtain ⟨ko, ox, oy, ol⟩ := oo
            unfold DT.cells at hbl HBL
            dsimp only at e0 e1 e2 e3 hst hbl HBL
            have HCE := Lib.hid (fun (w' : World) (hf : Fr (fun _ => False) wr w') => (⟨cell_fr hf (hxq.cell 1), cell_fr hf e0, cell_fr hf e1, cell_fr hf e2, cell_fr hf e3, cell_fr hf (hbl.cell 0), cell_fr hf (hbl.cell 1), cell_fr hf (hbl.cell 2), cell_fr hf (hbl.cell 3)⟩ : w'.cell? ⟨w.heap.size, 1, none⟩ = some (.string ⟨#[77, 65, 88]⟩) ∧ w'.cell? ⟨gl, j * 4, none⟩ = some (.int .i64 kt) ∧ w'.cell? ⟨gl, j * 4 + 1, none⟩ = some (.string tx) ∧ w'.cell? ⟨gl, j * 4 + 2, none⟩ = some (.string ty) ∧ w'.cell? ⟨gl, j * 4 + 3, none⟩ = some (.string tl) ∧ w'.cell? ⟨wo.heap.size, 0, none⟩ = some (.int .i64 ko) ∧ w'.cell? ⟨wo.heap.size, 1, none⟩ = some (.string ox) ∧ w'.cell? ⟨wo.heap.size, 2, none⟩ = some (.string oy) ∧ w'.cell? ⟨wo.heap.size, 3, none⟩ = some (.string ol)))
            have HLS := Lib.hid (fun wy => dLess_any ⟨ko, ox, oy, ol⟩ ⟨kt, tx, ty, tl⟩ wy)
            unfold DT.cells at HLS
            dsimp only at HLS
            obtain ⟨b, hb⟩ : ∃ b, dLess ⟨ko, ox, oy, ol⟩ ⟨kt, tx, ty, tl⟩ = b := ⟨_, rfl⟩
            rw [hb] at HLS hst
            have HST := Lib.hid hst
            have x1 : wr.cell? ⟨w.heap.size, 1, none⟩ = some (.string ⟨#[77, 65, 88]⟩) := hxq.cell 1
            clear hst hb hoo hxx hzq hxq hbl hfq
            go_upto_region 32 with (fail)
            go_cut [116] from 93 to 116 (fun q wx => q = .bool b ∧ Fr (fun _ => False) wr wx)
            case first =>
              cases b with
              | true =>
                refine wp_region_noPanic ?_
                refine wp_region_held_drew (S := (fun w' => w'.cell? ⟨w.heap.size, 1, none⟩ = some (.string ⟨#[77, 65, 88]⟩) ∧ w'.cell? ⟨gl, j * 4, none⟩ = some (.int .i64 kt) ∧ w'.cell? ⟨gl, j * 4 + 1, none⟩ = some (.string tx) ∧ w'.cell? ⟨gl, j * 4 + 2, none⟩ = some (.string ty) ∧ w'.cell? ⟨gl, j * 4 + 3, none⟩ = some (.string tl) ∧ w'.cell? ⟨wo.heap.size, 0, none⟩ = some (.int .i64 ko) ∧ w'.cell? ⟨wo.heap.size, 1, none⟩ = some (.string ox) ∧ w'.cell? ⟨wo.heap.size, 2, none⟩ = some (.string oy) ∧ w'.cell? ⟨wo.heap.size, 3, none⟩ = some (.string ol))) (by kernel_rfl) ?_ (fun hHeld => ?_)
                · try dsimp only
                  exact HCE.out _ (Fr.refl (fun _ => False) wr).drew
                refine wpAnyH_take (i := 0) (oi := _) (v := ?_) (by simp only [List.getElem?_toArray, List.getElem?_cons_zero]; rfl) (by kernel_rfl) (by kernel_rfl) (by kernel_rfl) (fun _ _ _ h => h) (Or.inl ⟨by rfl, ?_⟩) (by assumption) ?_
                rotate_left
                · intro w hSw
                  try dsimp only at hSw
                  go_simp
                  all_goals (with_reducible rfl)
                try simp only [Act.put, List.setIfInBounds_toArray, List.set_cons_zero, List.set_cons_succ]
                refine wpAnyH_take (i := 1) (oi := _) (v := ?_) (by simp only [List.getElem?_toArray, List.getElem?_cons_zero, List.getElem?_cons_succ]; rfl) (by kernel_rfl) (by kernel_rfl) (by kernel_rfl) (fun _ _ _ h => h) (Or.inl ⟨by rfl, ?_⟩) (by assumption) ?_
                rotate_left
                · intro w hSw
                  try dsimp only at hSw
                  go_simp
                  all_goals (with_reducible rfl)
                try simp only [Act.put, List.setIfInBounds_toArray, List.set_cons_zero, List.set_cons_succ]
                refine wpAnyH_take (i := 2) (oi := _) (v := ?_) (by simp only [List.getElem?_toArray, List.getElem?_cons_zero, List.getElem?_cons_succ]; rfl) (by kernel_rfl) (by kernel_rfl) (by kernel_rfl) (fun _ _ _ h => h) (Or.inl ⟨by rfl, ?_⟩) (by assumption) ?_
                rotate_left
                · intro w hSw
                  try dsimp only at hSw
                  go_simp
                  all_goals (with_reducible rfl)
                try simp only [Act.put, List.setIfInBounds_toArray, List.set_cons_zero, List.set_cons_succ]
                refine wpAnyH_take (i := 3) (oi := _) (v := ?_) (by simp only [List.getElem?_toArray, List.getElem?_cons_zero, List.getElem?_cons_succ]; rfl) (by kernel_rfl) (by kernel_rfl) (by kernel_rfl) (fun _ _ _ h => h) (Or.inl ⟨by rfl, ?_⟩) (by assumption) ?_
                rotate_left
                · intro w hSw
                  try dsimp only at hSw
                  go_simp
                  all_goals (with_reducible rfl)
                try simp only [Act.put, List.setIfInBounds_toArray, List.set_cons_zero, List.set_cons_succ]
                refine wpAnyH_take (i := 4) (oi := _) (v := undef) (by simp only [List.getElem?_toArray, List.getElem?_cons_zero, List.getElem?_cons_succ]; rfl) (by kernel_rfl) (by kernel_rfl) (by kernel_rfl) (fun _ _ _ h => h) (Or.inr ⟨by rfl, rfl⟩) (by assumption) ?_
                try simp only [Act.put, List.setIfInBounds_toArray, List.set_cons_zero, List.set_cons_succ]
                refine wpAnyH_take (i := 5) (oi := _) (v := undef) (by simp only [List.getElem?_toArray, List.getElem?_cons_zero, List.getElem?_cons_succ]; rfl) (by kernel_rfl) (by kernel_rfl) (by kernel_rfl) (fun _ _ _ h => h) (Or.inr ⟨by rfl, rfl⟩) (by assumption) ?_
                try simp only [Act.put, List.setIfInBounds_toArray, List.set_cons_zero, List.set_cons_succ]
                refine wpAnyH_take (i := 6) (oi := _) (v := undef) (by simp only [List.getElem?_toArray, List.getElem?_cons_zero, List.getElem?_cons_succ]; rfl) (by kernel_rfl) (by kernel_rfl) (by kernel_rfl) (fun _ _ _ h => h) (Or.inr ⟨by rfl, rfl⟩) (by assumption) ?_
                try simp only [Act.put, List.setIfInBounds_toArray, List.set_cons_zero, List.set_cons_succ]
                refine wpAnyH_take (i := 7) (oi := _) (v := undef) (by simp only [List.getElem?_toArray, List.getElem?_cons_zero, List.getElem?_cons_succ]; rfl) (by kernel_rfl) (by kernel_rfl) (by kernel_rfl) (fun _ _ _ h => h) (Or.inr ⟨by rfl, rfl⟩) (by assumption) ?_
                try simp only [Act.put, List.setIfInBounds_toArray, List.set_cons_zero, List.set_cons_succ]
                refine wpAnyH_take (i := 8) (oi := _) (v := undef) (by simp only [List.getElem?_toArray, List.getElem?_cons_zero, List.getElem?_cons_succ]; rfl) (by kernel_rfl) (by kernel_rfl) (by kernel_rfl) (fun _ _ _ h => h) (Or.inr ⟨by rfl, rfl⟩) (by assumption) ?_
                try simp only [Act.put, List.setIfInBounds_toArray, List.set_cons_zero, List.set_cons_succ]
                refine wpAnyH_take (i := 9) (oi := _) (v := undef) (by simp only [List.getElem?_toArray, List.getElem?_cons_zero, List.getElem?_cons_succ]; rfl) (by kernel_rfl) (by kernel_rfl) (by kernel_rfl) (fun _ _ _ h => h) (Or.inr ⟨by rfl, rfl⟩) (by assumption) ?_
                try simp only [Act.put, List.setIfInBounds_toArray, List.set_cons_zero, List.set_cons_succ]
                refine wpAnyH_take (i := 10) (oi := _) (v := ?_) (by simp only [List.getElem?_toArray, List.getElem?_cons_zero, List.getElem?_cons_succ]; rfl) (by kernel_rfl) (by kernel_rfl) (by kernel_rfl) (fun _ _ _ h => h) (Or.inl ⟨by rfl, ?_⟩) (by assumption) ?_
                rotate_left
                · intro w hSw
                  try dsimp only at hSw
                  go_simp
                  all_goals (with_reducible rfl)
                try simp only [Act.put, List.setIfInBounds_toArray, List.set_cons_zero, List.set_cons_succ]
                refine wpAnyH_take (i := 11) (oi := _) (v := ?_) (by simp only [List.getElem?_toArray, List.getElem?_cons_zero, List.getElem?_cons_succ]; rfl) (by kernel_rfl) (by kernel_rfl) (by kernel_rfl) (fun _ _ _ h => h) (Or.inl ⟨by rfl, ?_⟩) (by assumption) ?_
                rotate_left
                · intro w hSw
                  try dsimp only at hSw
                  go_simp
                  all_goals (with_reducible rfl)
                try simp only [Act.put, List.setIfInBounds_toArray, List.set_cons_zero, List.set_cons_succ]
                refine wpAnyH_take (i := 12) (oi := _) (v := ?_) (by simp only [List.getElem?_toArray, List.getElem?_cons_zero, List.getElem?_cons_succ]; rfl) (by kernel_rfl) (by kernel_rfl) (by kernel_rfl) (fun _ _ _ h => h) (Or.inl ⟨by rfl, ?_⟩) (by assumption) ?_
                rotate_left
                · intro w hSw
                  try dsimp only at hSw
                  go_simp
                  all_goals (with_reducible rfl)
                try simp only [Act.put, List.setIfInBounds_toArray, List.set_cons_zero, List.set_cons_succ]
                refine wpAnyH_take (i := 13) (oi := _) (v := ?_) (by simp only [List.getElem?_toArray, List.getElem?_cons_zero, List.getElem?_cons_succ]; rfl) (by kernel_rfl) (by kernel_rfl) (by kernel_rfl) (fun _ _ _ h => h) (Or.inl ⟨by rfl, ?_⟩) (by assumption) ?_
                rotate_left
                · intro w hSw
                  try dsimp only at hSw
                  go_simp
                  all_goals (with_reducible rfl)
                try simp only [Act.put, List.setIfInBounds_toArray, List.set_cons_zero, List.set_cons_succ]
                refine wpAnyH_take (i := 14) (oi := _) (v := ?_) (by simp only [List.getElem?_toArray, List.getElem?_cons_zero, List.getElem?_cons_succ]; rfl) (by kernel_rfl) (by kernel_rfl) (by kernel_rfl) (fun _ _ _ h => h) (Or.inl ⟨by rfl, ?_⟩) (by assumption) ?_
                rotate_left
                · intro w hSw
                  try dsimp only at hSw
                  go_simp
                  all_goals (with_reducible rfl)
                try simp only [Act.put, List.setIfInBounds_toArray, List.set_cons_zero, List.set_cons_succ]
                refine wpAnyH_take (i := 15) (oi := _) (v := ?_) (by simp only [List.getElem?_toArray, List.getElem?_cons_zero, List.getElem?_cons_succ]; rfl) (by kernel_rfl) (by kernel_rfl) (by kernel_rfl) (fun _ _ _ h => h) (Or.inl ⟨by rfl, ?_⟩) (by assumption) ?_
                rotate_left
                · intro w hSw
                  try dsimp only at hSw
                  go_simp
                  all_goals (with_reducible rfl)
                try simp only [Act.put, List.setIfInBounds_toArray, List.set_cons_zero, List.set_cons_succ]
                refine wpAnyH_take (i := 16) (oi := _) (v := ?_) (by simp only [List.getElem?_toArray, List.getElem?_cons_zero, List.getElem?_cons_succ]; rfl) (by kernel_rfl) (by kernel_rfl) (by kernel_rfl) (fun _ _ _ h => h) (Or.inl ⟨by rfl, ?_⟩) (by assumption) ?_
                rotate_left
                · intro w hSw
                  try dsimp only at hSw
                  go_simp
                  all_goals (with_reducible rfl)
                try simp only [Act.put, List.setIfInBounds_toArray, List.set_cons_zero, List.set_cons_succ]
                refine wpAnyH_take (i := 17) (oi := _) (v := ?_) (by simp only [List.getElem?_toArray, List.getElem?_cons_zero, List.getElem?_cons_succ]; rfl) (by kernel_rfl) (by kernel_rfl) (by kernel_rfl) (fun _ _ _ h => h) (Or.inl ⟨by rfl, ?_⟩) (by assumption) ?_
                rotate_left
                · intro w hSw
                  try dsimp only at hSw
                  go_simp
                  all_goals (with_reducible rfl)
                try simp only [Act.put, List.setIfInBounds_toArray, List.set_cons_zero, List.set_cons_succ]
                refine wpAnyH_take (i := 18) (oi := _) (v := ?_) (by simp only [List.getElem?_toArray, List.getElem?_cons_zero, List.getElem?_cons_succ]; rfl) (by kernel_rfl) (by kernel_rfl) (by kernel_rfl) (fun _ _ _ h => h) (Or.inl ⟨by rfl, ?_⟩) (by assumption) ?_
                rotate_left
                · intro w hSw
                  try dsimp only at hSw
                  go_simp
                  all_goals (with_reducible rfl)
                try simp only [Act.put, List.setIfInBounds_toArray, List.set_cons_zero, List.set_cons_succ]
                refine wpAnyH_take (i := 19) (oi := _) (v := ?_) (by simp only [List.getElem?_toArray, List.getElem?_cons_zero, List.getElem?_cons_succ]; rfl) (by kernel_rfl) (by kernel_rfl) (by kernel_rfl) (fun _ _ _ h => h) (Or.inl ⟨by rfl, ?_⟩) (by assumption) ?_
                rotate_left
                · intro w hSw
                  try dsimp only at hSw
                  go_simp
                  all_goals (with_reducible rfl)
                try simp only [Act.put, List.setIfInBounds_toArray, List.set_cons_zero, List.set_cons_succ]
                refine wpAnyH_take (i := 20) (oi := _) (v := ?_) (by simp only [List.getElem?_toArray, List.getElem?_cons_zero, List.getElem?_cons_succ]; rfl) (by kernel_rfl) (by kernel_rfl) (by kernel_rfl) (fun _ _ _ h => h) (Or.inl ⟨by rfl, ?_⟩) (by assumption) ?_
                rotate_left
                · intro w hSw
                  try dsimp only at hSw
                  go_simp
                  all_goals (with_reducible rfl)
                try simp only [Act.put, List.setIfInBounds_toArray, List.set_cons_zero, List.set_cons_succ]
                refine wpAnyH_ready (rs := [21]) (by kernel_rfl) (by simp) ?_
                refine AllReadyH.cons (o := _) (by simp only [List.getElem?_toArray, List.getElem?_cons_zero, List.getElem?_cons_succ]; rfl) (fun K hK => ?_) ?_
                · skip
                  go_simp
                  go_at_call 36
                  refine (HLS.out _).mono ?_
                  rintro e w1 ⟨rfl, hf1⟩
                  have F1 : Fr (fun _ => False) wr w1 := ((Fr.refl (fun _ => False) wr).drew).trans' hf1
                  refine hK.out _ _ ?_ (fun hHeld => ?_)
                  · try dsimp only
                    exact HCE.out _ F1
                  clear hK K
                  try simp only [Act.put, List.setIfInBounds_toArray, List.set_cons_zero, List.set_cons_succ]
                  refine wpAnyH_take (i := 22) (oi := _) (v := ?_) (by simp only [List.getElem?_toArray, List.getElem?_cons_zero, List.getElem?_cons_succ]; rfl) (by kernel_rfl) (by kernel_rfl) (by kernel_rfl) (fun _ _ _ h => h) (Or.inl ⟨by rfl, ?_⟩) (by assumption) ?_
                  rotate_left
                  · intro w hSw
                    try dsimp only at hSw
                    go_simp
                    all_goals (with_reducible rfl)
                  try simp only [Act.put, List.setIfInBounds_toArray, List.set_cons_zero, List.set_cons_succ]
                  refine wpAnyH_take (i := 23) (oi := _) (v := ?_) (by simp only [List.getElem?_toArray, List.getElem?_cons_zero, List.getElem?_cons_succ]; rfl) (by kernel_rfl) (by kernel_rfl) (by kernel_rfl) (fun _ _ _ h => h) (Or.inl ⟨by rfl, ?_⟩) (by assumption) ?_
                  rotate_left
                  · intro w hSw
                    try dsimp only at hSw
                    go_simp
                    all_goals (with_reducible rfl)
                  try simp only [Act.put, List.setIfInBounds_toArray, List.set_cons_zero, List.set_cons_succ]
                  refine wpAnyH_done (by kernel_rfl) ?_ _
                  refine NoPanic.normal ?_
                  go_wp2_with fail
                  go_meet
                  exact ⟨rfl, F1⟩
                exact AllReadyH.nil
              | false =>
                refine wp_region_noPanic ?_
                refine wp_region_held_drew (S := (fun w' => w'.cell? ⟨w.heap.size, 1, none⟩ = some (.string ⟨#[77, 65, 88]⟩) ∧ w'.cell? ⟨gl, j * 4, none⟩ = some (.int .i64 kt) ∧ w'.cell? ⟨gl, j * 4 + 1, none⟩ = some (.string tx) ∧ w'.cell? ⟨gl, j * 4 + 2, none⟩ = some (.string ty) ∧ w'.cell? ⟨gl, j * 4 + 3, none⟩ = some (.string tl) ∧ w'.cell? ⟨wo.heap.size, 0, none⟩ = some (.int .i64 ko) ∧ w'.cell? ⟨wo.heap.size, 1, none⟩ = some (.string ox) ∧ w'.cell? ⟨wo.heap.size, 2, none⟩ = some (.string oy) ∧ w'.cell? ⟨wo.heap.size, 3, none⟩ = some (.string ol))) (by kernel_rfl) ?_ (fun hHeld => ?_)
                · try dsimp only
                  exact HCE.out _ (Fr.refl (fun _ => False) wr).drew
                refine wpAnyH_take (i := 0) (oi := _) (v := ?_) (by simp only [List.getElem?_toArray, List.getElem?_cons_zero]; rfl) (by kernel_rfl) (by kernel_rfl) (by kernel_rfl) (fun _ _ _ h => h) (Or.inl ⟨by rfl, ?_⟩) (by assumption) ?_
                rotate_left
                · intro w hSw
                  try dsimp only at hSw
                  go_simp
                  all_goals (with_reducible rfl)
                try simp only [Act.put, List.setIfInBounds_toArray, List.set_cons_zero, List.set_cons_succ]
                refine wpAnyH_take (i := 1) (oi := _) (v := ?_) (by simp only [List.getElem?_toArray, List.getElem?_cons_zero, List.getElem?_cons_succ]; rfl) (by kernel_rfl) (by kernel_rfl) (by kernel_rfl) (fun _ _ _ h => h) (Or.inl ⟨by rfl, ?_⟩) (by assumption) ?_
                rotate_left
                · intro w hSw
                  try dsimp only at hSw
                  go_simp
                  all_goals (with_reducible rfl)
                try simp only [Act.put, List.setIfInBounds_toArray, List.set_cons_zero, List.set_cons_succ]
                refine wpAnyH_take (i := 2) (oi := _) (v := ?_) (by simp only [List.getElem?_toArray, List.getElem?_cons_zero, List.getElem?_cons_succ]; rfl) (by kernel_rfl) (by kernel_rfl) (by kernel_rfl) (fun _ _ _ h => h) (Or.inl ⟨by rfl, ?_⟩) (by assumption) ?_
                rotate_left
                · intro w hSw
                  try dsimp only at hSw
                  go_simp
                  all_goals (with_reducible rfl)
                try simp only [Act.put, List.setIfInBounds_toArray, List.set_cons_zero, List.set_cons_succ]
                refine wpAnyH_take (i := 3) (oi := _) (v := ?_) (by simp only [List.getElem?_toArray, List.getElem?_cons_zero, List.getElem?_cons_succ]; rfl) (by kernel_rfl) (by kernel_rfl) (by kernel_rfl) (fun _ _ _ h => h) (Or.inl ⟨by rfl, ?_⟩) (by assumption) ?_
                rotate_left
                · intro w hSw
                  try dsimp only at hSw
                  go_simp
                  all_goals (with_reducible rfl)
                try simp only [Act.put, List.setIfInBounds_toArray, List.set_cons_zero, List.set_cons_succ]
                refine wpAnyH_take (i := 4) (oi := _) (v := undef) (by simp only [List.getElem?_toArray, List.getElem?_cons_zero, List.getElem?_cons_succ]; rfl) (by kernel_rfl) (by kernel_rfl) (by kernel_rfl) (fun _ _ _ h => h) (Or.inr ⟨by rfl, rfl⟩) (by assumption) ?_
                try simp only [Act.put, List.setIfInBounds_toArray, List.set_cons_zero, List.set_cons_succ]
                refine wpAnyH_take (i := 5) (oi := _) (v := undef) (by simp only [List.getElem?_toArray, List.getElem?_cons_zero, List.getElem?_cons_succ]; rfl) (by kernel_rfl) (by kernel_rfl) (by kernel_rfl) (fun _ _ _ h => h) (Or.inr ⟨by rfl, rfl⟩) (by assumption) ?_
                try simp only [Act.put, List.setIfInBounds_toArray, List.set_cons_zero, List.set_cons_succ]
                refine wpAnyH_take (i := 6) (oi := _) (v := undef) (by simp only [List.getElem?_toArray, List.getElem?_cons_zero, List.getElem?_cons_succ]; rfl) (by kernel_rfl) (by kernel_rfl) (by kernel_rfl) (fun _ _ _ h => h) (Or.inr ⟨by rfl, rfl⟩) (by assumption) ?_
                try simp only [Act.put, List.setIfInBounds_toArray, List.set_cons_zero, List.set_cons_succ]
                refine wpAnyH_take (i := 7) (oi := _) (v := undef) (by simp only [List.getElem?_toArray, List.getElem?_cons_zero, List.getElem?_cons_succ]; rfl) (by kernel_rfl) (by kernel_rfl) (by kernel_rfl) (fun _ _ _ h => h) (Or.inr ⟨by rfl, rfl⟩) (by assumption) ?_
                try simp only [Act.put, List.setIfInBounds_toArray, List.set_cons_zero, List.set_cons_succ]
                refine wpAnyH_take (i := 8) (oi := _) (v := undef) (by simp only [List.getElem?_toArray, List.getElem?_cons_zero, List.getElem?_cons_succ]; rfl) (by kernel_rfl) (by kernel_rfl) (by kernel_rfl) (fun _ _ _ h => h) (Or.inr ⟨by rfl, rfl⟩) (by assumption) ?_
                try simp only [Act.put, List.setIfInBounds_toArray, List.set_cons_zero, List.set_cons_succ]
                refine wpAnyH_take (i := 9) (oi := _) (v := undef) (by simp only [List.getElem?_toArray, List.getElem?_cons_zero, List.getElem?_cons_succ]; rfl) (by kernel_rfl) (by kernel_rfl) (by kernel_rfl) (fun _ _ _ h => h) (Or.inr ⟨by rfl, rfl⟩) (by assumption) ?_
                try simp only [Act.put, List.setIfInBounds_toArray, List.set_cons_zero, List.set_cons_succ]
                refine wpAnyH_take (i := 10) (oi := _) (v := ?_) (by simp only [List.getElem?_toArray, List.getElem?_cons_zero, List.getElem?_cons_succ]; rfl) (by kernel_rfl) (by kernel_rfl) (by kernel_rfl) (fun _ _ _ h => h) (Or.inl ⟨by rfl, ?_⟩) (by assumption) ?_
                rotate_left
                · intro w hSw
                  try dsimp only at hSw
                  go_simp
                  all_goals (with_reducible rfl)
                try simp only [Act.put, List.setIfInBounds_toArray, List.set_cons_zero, List.set_cons_succ]
                refine wpAnyH_take (i := 11) (oi := _) (v := ?_) (by simp only [List.getElem?_toArray, List.getElem?_cons_zero, List.getElem?_cons_succ]; rfl) (by kernel_rfl) (by kernel_rfl) (by kernel_rfl) (fun _ _ _ h => h) (Or.inl ⟨by rfl, ?_⟩) (by assumption) ?_
                rotate_left
                · intro w hSw
                  try dsimp only at hSw
                  go_simp
                  all_goals (with_reducible rfl)
                try simp only [Act.put, List.setIfInBounds_toArray, List.set_cons_zero, List.set_cons_succ]
                refine wpAnyH_take (i := 12) (oi := _) (v := ?_) (by simp only [List.getElem?_toArray, List.getElem?_cons_zero, List.getElem?_cons_succ]; rfl) (by kernel_rfl) (by kernel_rfl) (by kernel_rfl) (fun _ _ _ h => h) (Or.inl ⟨by rfl, ?_⟩) (by assumption) ?_
                rotate_left
                · intro w hSw
                  try dsimp only at hSw
                  go_simp
                  all_goals (with_reducible rfl)
                try simp only [Act.put, List.setIfInBounds_toArray, List.set_cons_zero, List.set_cons_succ]
                refine wpAnyH_take (i := 13) (oi := _) (v := ?_) (by simp only [List.getElem?_toArray, List.getElem?_cons_zero, List.getElem?_cons_succ]; rfl) (by kernel_rfl) (by kernel_rfl) (by kernel_rfl) (fun _ _ _ h => h) (Or.inl ⟨by rfl, ?_⟩) (by assumption) ?_
                rotate_left
                · intro w hSw
                  try dsimp only at hSw
                  go_simp
                  all_goals (with_reducible rfl)
                try simp only [Act.put, List.setIfInBounds_toArray, List.set_cons_zero, List.set_cons_succ]
                refine wpAnyH_take (i := 14) (oi := _) (v := ?_) (by simp only [List.getElem?_toArray, List.getElem?_cons_zero, List.getElem?_cons_succ]; rfl) (by kernel_rfl) (by kernel_rfl) (by kernel_rfl) (fun _ _ _ h => h) (Or.inl ⟨by rfl, ?_⟩) (by assumption) ?_
                rotate_left
                · intro w hSw
                  try dsimp only at hSw
                  go_simp
                  all_goals (with_reducible rfl)
                try simp only [Act.put, List.setIfInBounds_toArray, List.set_cons_zero, List.set_cons_succ]
                refine wpAnyH_take (i := 15) (oi := _) (v := ?_) (by simp only [List.getElem?_toArray, List.getElem?_cons_zero, List.getElem?_cons_succ]; rfl) (by kernel_rfl) (by kernel_rfl) (by kernel_rfl) (fun _ _ _ h => h) (Or.inl ⟨by rfl, ?_⟩) (by assumption) ?_
                rotate_left
                · intro w hSw
                  try dsimp only at hSw
                  go_simp
                  all_goals (with_reducible rfl)
                try simp only [Act.put, List.setIfInBounds_toArray, List.set_cons_zero, List.set_cons_succ]
                refine wpAnyH_take (i := 16) (oi := _) (v := ?_) (by simp only [List.getElem?_toArray, List.getElem?_cons_zero, List.getElem?_cons_succ]; rfl) (by kernel_rfl) (by kernel_rfl) (by kernel_rfl) (fun _ _ _ h => h) (Or.inl ⟨by rfl, ?_⟩) (by assumption) ?_
                rotate_left
                · intro w hSw
                  try dsimp only at hSw
                  go_simp
                  all_goals (with_reducible rfl)
                try simp only [Act.put, List.setIfInBounds_toArray, List.set_cons_zero, List.set_cons_succ]
                refine wpAnyH_take (i := 17) (oi := _) (v := ?_) (by simp only [List.getElem?_toArray, List.getElem?_cons_zero, List.getElem?_cons_succ]; rfl) (by kernel_rfl) (by kernel_rfl) (by kernel_rfl) (fun _ _ _ h => h) (Or.inl ⟨by rfl, ?_⟩) (by assumption) ?_
                rotate_left
                · intro w hSw
                  try dsimp only at hSw
                  go_simp
                  all_goals (with_reducible rfl)
                try simp only [Act.put, List.setIfInBounds_toArray, List.set_cons_zero, List.set_cons_succ]
                refine wpAnyH_take (i := 18) (oi := _) (v := ?_) (by simp only [List.getElem?_toArray, List.getElem?_cons_zero, List.getElem?_cons_succ]; rfl) (by kernel_rfl) (by kernel_rfl) (by kernel_rfl) (fun _ _ _ h => h) (Or.inl ⟨by rfl, ?_⟩) (by assumption) ?_
                rotate_left
                · intro w hSw
                  try dsimp only at hSw
                  go_simp
                  all_goals (with_reducible rfl)
                try simp only [Act.put, List.setIfInBounds_toArray, List.set_cons_zero, List.set_cons_succ]
                refine wpAnyH_take (i := 19) (oi := _) (v := ?_) (by simp only [List.getElem?_toArray, List.getElem?_cons_zero, List.getElem?_cons_succ]; rfl) (by kernel_rfl) (by kernel_rfl) (by kernel_rfl) (fun _ _ _ h => h) (Or.inl ⟨by rfl, ?_⟩) (by assumption) ?_
                rotate_left
                · intro w hSw
                  try dsimp only at hSw
                  go_simp
                  all_goals (with_reducible rfl)
                try simp only [Act.put, List.setIfInBounds_toArray, List.set_cons_zero, List.set_cons_succ]
                refine wpAnyH_take (i := 20) (oi := _) (v := ?_) (by simp only [List.getElem?_toArray, List.getElem?_cons_zero, List.getElem?_cons_succ]; rfl) (by kernel_rfl) (by kernel_rfl) (by kernel_rfl) (fun _ _ _ h => h) (Or.inl ⟨by rfl, ?_⟩) (by assumption) ?_
                rotate_left
                · intro w hSw
                  try dsimp only at hSw
                  go_simp
                  all_goals (with_reducible rfl)
                try simp only [Act.put, List.setIfInBounds_toArray, List.set_cons_zero, List.set_cons_succ]
                refine wpAnyH_ready (rs := [21]) (by kernel_rfl) (by simp) ?_
                refine AllReadyH.cons (o := _) (by simp only [List.getElem?_toArray, List.getElem?_cons_zero, List.getElem?_cons_succ]; rfl) (fun K hK => ?_) ?_
                · skip
                  go_simp
                  go_at_call 36
                  refine (HLS.out _).mono ?_
                  rintro e w1 ⟨rfl, hf1⟩
                  have F1 : Fr (fun _ => False) wr w1 := ((Fr.refl (fun _ => False) wr).drew).trans' hf1
                  refine hK.out _ _ ?_ (fun hHeld => ?_)
                  · try dsimp only
                    exact HCE.out _ F1
                  clear hK K
                  try simp only [Act.put, List.setIfInBounds_toArray, List.set_cons_zero, List.set_cons_succ]
                  refine wpAnyH_take (i := 22) (oi := _) (v := ?_) (by simp only [List.getElem?_toArray, List.getElem?_cons_zero, List.getElem?_cons_succ]; rfl) (by kernel_rfl) (by kernel_rfl) (by kernel_rfl) (fun _ _ _ h => h) (Or.inl ⟨by rfl, ?_⟩) (by assumption) ?_
                  rotate_left
                  · intro w hSw
                    try dsimp only at hSw
                    go_simp
                    all_goals (with_reducible rfl)
                  try simp only [Act.put, List.setIfInBounds_toArray, List.set_cons_zero, List.set_cons_succ]
                  refine wpAnyH_take (i := 23) (oi := _) (v := ?_) (by simp only [List.getElem?_toArray, List.getElem?_cons_zero, List.getElem?_cons_succ]; rfl) (by kernel_rfl) (by kernel_rfl) (by kernel_rfl) (fun _ _ _ h => h) (Or.inl ⟨by rfl, ?_⟩) (by assumption) ?_
                  rotate_left
                  · intro w hSw
                    try dsimp only at hSw
                    go_simp
                    all_goals (with_reducible rfl)
                  try simp only [Act.put, List.setIfInBounds_toArray, List.set_cons_zero, List.set_cons_succ]
                  refine wpAnyH_done (by kernel_rfl) ?_ _
                  refine NoPanic.normal ?_
                  go_wp2_with fail
                  go_meet
                  exact ⟨rfl, F1⟩
                exact AllReadyH.nil
            case rest =>
              obtain ⟨rfl, hfc⟩ := hcut
              obtain ⟨s0, s1, s2, s3, s4, s5, s6, s7, s8⟩ := HCE.out _ hfc
              have hbc := HBL.out.fr hfc (fun h => h)
              have HBC := Lib.hid hbc
              have HFC := Lib.hid (HFQ.out.trans' hfc)
              have f0 := hbc.frozen 0
              have f1 := hbc.frozen 1
              have f2 := hbc.frozen 2
              have f3 := hbc.frozen 3
              clear hfc hbc
              cases b with
              | true =>
                go_wp2_with fail
                go_roundw
                case rel => exact ⟨j + 1, by go_num, hjm, by rw [HST.out, if_pos rfl]; exact (((HBC.out.set_ 0 (.int .i64 kt)).set_ 1 (.string tx)).set_ 2 (.string ty)).set_ 3 (.string tl), (((HFC.out.setCell ⟨wo.heap.size, 0, none⟩ (fun h => absurd h (Nat.lt_irrefl _)) (.int .i64 kt)).setCell ⟨wo.heap.size, 1, none⟩ (fun h => absurd h (Nat.lt_irrefl _)) (.string tx)).setCell ⟨wo.heap.size, 2, none⟩ (fun h => absurd h (Nat.lt_irrefl _)) (.string ty)).setCell ⟨wo.heap.size, 3, none⟩ (fun h => absurd h (Nat.lt_irrefl _)) (.string tl)⟩
                case measure => simp only [intOf]; omega
              | false =>
                go_wp2_with fail
                go_roundw
                case rel => exact ⟨j + 1, by go_num, hjm, by rw [HST.out, if_neg (by decide)]; exact HBC.out, HFC.out⟩
                case measure => simp only [intOf]; omega
          · have hjm' : decide (j < m) = false := by simpa using hjm
            have e : j = m := by omega
            have HE := Lib.hid e
            obtain ⟨ko, ox, oy, ol⟩ := oo
            unfold DT.cells at hbl HBL
            dsimp only at hbl HBL
            have b0 := hbl.cell 0
            have b1 := hbl.cell 1
            have b2 := hbl.cell 2
            have b3 := hbl.cell 3
            simp only [List.getElem?_toArray, List.getElem?_cons_zero, List.getElem?_cons_succ] at b0 b1 b2 b3
            have p0 := hzq.cell 0
            have p1 := hzq.cell 1
            have p2 := hzq.cell 2
            have p3 := hzq.cell 3
            have q0 := hzq.frozen 0
            have q1 := hzq.frozen 1
            have q2 := hzq.frozen 2
            have q3 := hzq.frozen 3
            simp only [List.getElem?_toArray, List.getElem?_cons_zero, List.getElem?_cons_succ] at p0 p1 p2 p3
            clear e hoo hbl hfq hzq hxq
            go_wp2_with fail
            rw [HSOME.out, ← HE.out, HOO.out]
            unfold GetPost DT.cells
            dsimp only
            exact bodyPost_ret (v := .tuple #[.agg #[.int .i64 ko, .string ox, .string oy, .string ol], .bool true]) (results_c2 rfl _ _ (w.heap.size + 1) 41 _ (0, 0) _ rfl (show Blk _ (w.heap.size + 1) 41 #[.int .i64 ko, .string ox, .string oy, .string ol] from ((((HZQ.out.set_ 0 (.int .i64 ko)).set_ 1 (.string ox)).set_ 2 (.string oy)).set_ 3 (.string ol))) Tryz.underlying41 rfl (by kernel_rfl) _ rfl) rfl ⟨((((HFW.out.setCell ⟨w.heap.size + 1, 0, none⟩ (fun h => absurd h (by simp)) (.int .i64 ko)).setCell ⟨w.heap.size + 1, 1, none⟩ (fun h => absurd h (by simp)) (.string ox)).setCell ⟨w.heap.size + 1, 2, none⟩ (fun h => absurd h (by simp)) (.string oy)).setCell ⟨w.heap.size + 1, 3, none⟩ (fun h => absurd h (by simp)) (.string ol)), rfl⟩

end Go.Proofs.YtflhmieeidnpgaaGreatDoor
