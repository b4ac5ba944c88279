/- Proved: TotalFolds, the law that any fold of any rows is the document's, answers true for every input, and its input reads behind the call as it did. The variables that are listed are laid by the program's own text. No other condition. -/
import Derived.Test.YtflhmieeidnpgaaGreatDoorGx
import Derived.ProofKit
import Derived.OpenShut
import Derived.Deep.Slices
import Derived.Deep.Strs
import Derived.Lib.SmallJoins
import Derived.Test.YtflhmieeidnpgaaGreatDoorRows
import Derived.LaidMore
import Derived.Stop.Joined
import Derived.ChangeOld
import Derived.Below
import Derived.Test.YtflhmieeidnpgaaGreatDoorIi
import Derived.Deep.CutBlock
import Derived.Deep.RegionLawGrows
import Derived.Deep.Cut
import Derived.Deep.CutRange
import Derived.WalkKit
import Derived.WalkLawsBesides
import Derived.WalkSpells
import Derived.Deep.QuietTactic
import Derived.BigRegion
import Derived.BigQuiet
import Derived.Lib.Hide
import Derived.Outline
import Derived.Deep.AppendLies
import Derived.Deep.RegionLaw
import Derived.Deep.RegionWith
import Derived.Deep.RegionHeld3
import Derived.Deep.LoopGhost
import Derived.Deep.DeepFit
import Derived.Laws.ResultCell
import Derived.Laws.RangeAny
import Derived.Deep.MidRow
import Derived.StillTailTactics
import Derived.Test.YtflhmieeidnpgaaGreatDoorTie
import Derived.Test.YtflhmieeidnpgaaGreatDoorCards
import Derived.SevenTiedAt
import Derived.Lib.LaidTab
namespace Go.Proofs.YtflhmieeidnpgaaGreatDoor
set_option linter.unusedVariables false

section
open Go.ChangeShapes Go.WideShapes Go.Deep Go.RowKit

theorem Tryz.cells64 : Tryz.prog.cellsOf 64 = 12 := by kernel_rfl
theorem Tryz.cells41 : Tryz.prog.cellsOf 41 = 4 := by kernel_rfl
theorem Tryz.cells3 : Tryz.prog.cellsOf 3 = 1 := by kernel_rfl
theorem Tryz.cells9 : Tryz.prog.cellsOf 9 = 1 := by kernel_rfl

section
variable {H : Type} {enc : TypeId × Value → H} {w : World} {base : Nat} {spare : Nat → Bool} {held : Bool}

set_option maxRecDepth 10000 in
theorem term_of {n : Nat} {cs : List Value} {x : DataW H × List MemPlace} (hl : cs.length = 4) (h : DataW.trod enc Tryz.prog w base spare held n 41 cs = some x) :
    ∃ y : DT, cs = y.list := by
  obtain ⟨y0, y1, y2, y3, m, hx, hlen, h0, h1, h2, h3⟩ := Go.Joins.trod_struct4 Tryz.underlying41 h
  match cs, hl with
  | [v0, v1, v2, v3], _ =>
    simp only [Tryz.cells3, Tryz.cells9] at h0 h1 h2 h3
    obtain ⟨t, e0, _, _⟩ := DataW.trod_int Tryz.underlying3 h0
    obtain ⟨s1, e1, _, _⟩ := DataW.trod_string Tryz.underlying9 h1
    obtain ⟨s2, e2, _, _⟩ := DataW.trod_string Tryz.underlying9 h2
    obtain ⟨s3, e3, _, _⟩ := DataW.trod_string Tryz.underlying9 h3
    simp at e0 e1 e2 e3
    subst e0 e1 e2 e3
    exact ⟨⟨t, s1, s2, s3⟩, rfl⟩

set_option maxRecDepth 10000 in
theorem three_of {n : Nat} {cs : List Value} {x : DataW H × List MemPlace} {a : Addr} (hc : w.cells? base a 12 = some cs) (h : DataW.trod enc Tryz.prog w base spare held n 64 cs = some x) :
    a.spot = none ∧ ∃ y : D3, ∀ j, j < 12 → w.cell? ⟨a.block, a.off + j, none⟩ = y.list[j]? := by
  obtain ⟨_, hl, hat⟩ := World.cells?_some hc
  obtain ⟨xs, m, _, _, hlen, hxl, hg⟩ := DataW.trod_array Tryz.underlying64 h
  have g0 := hg 0 (by omega)
  have g1 := hg 1 (by omega)
  have g2 := hg 2 (by omega)
  rw [Tryz.cells41] at g0 g1 g2
  match xs, hxl with
  | [z0, z1, z2], _ =>
    obtain ⟨t0, f0⟩ := term_of (by rw [List.length_take, List.length_drop]; omega) g0
    obtain ⟨t1, f1⟩ := term_of (by rw [List.length_take, List.length_drop]; omega) g1
    obtain ⟨t2, f2⟩ := term_of (by rw [List.length_take, List.length_drop]; omega) g2
    have hv : cs = (⟨t0, t1, t2⟩ : D3).list := by
      show cs = t0.list ++ t1.list ++ t2.list
      rw [← f0, ← f1, ← f2]
      have e1 : cs = cs.take 4 ++ cs.drop 4 := (List.take_append_drop 4 cs).symm
      have e2 : cs.drop 4 = (cs.drop 4).take 4 ++ (cs.drop 4).drop 4 := (List.take_append_drop 4 _).symm
      have e3 : (cs.drop 4).drop 4 = (cs.drop 8).take 4 := by
        rw [List.drop_drop, List.take_of_length_le (by rw [List.length_drop]; omega)]
      rw [e3] at e2
      rw [e2] at e1
      simpa [List.append_assoc] using e1
    have c0 := hat 0 (by omega)
    have hne : ∃ v, cs[0]? = some v := ⟨cs[0]'(by omega), List.getElem?_eq_getElem (by omega)⟩
    obtain ⟨v, hv0⟩ := hne
    rw [hv0] at c0
    have hs : a.spot = none := World.cell?_spot c0
    refine ⟨hs, ⟨t0, t1, t2⟩, fun j hj => ?_⟩
    obtain ⟨b, o, sp⟩ := a
    simp only at hs
    subst hs
    have h2 := hat j hj
    rw [Go.WideShapes.add_plain] at h2
    rw [← hv]
    exact h2

theorem open_in {fuel : Nat} {v : Value} {a : Option Addr} {len cap : Nat} {x : DataW H × List MemPlace} (hv : v = .slice a len cap) (h : DataW.trod enc Tryz.prog w base spare held fuel 23 v.cells.toList = some x) :
    len ≤ maxLen ∧ ∃ zs, IsIn w a len cap zs := by
  subst hv
  rcases open_slice Tryz.underlying23 h with ⟨hcs, _⟩ | ⟨a', len', cap', m, n, D, Pl, hcs, _, hl, hcm, hm, _, hall⟩
  · simp [Value.cells] at hcs
    obtain ⟨rfl, rfl, rfl⟩ := hcs
    exact ⟨Nat.zero_le _, [], .inl ⟨rfl, rfl, rfl, rfl⟩⟩
  · simp [Value.cells] at hcs
    obtain ⟨rfl, rfl, rfl⟩ := hcs
    have hlm : len ≤ m := by rw [hm]; split <;> omega
    rw [Tryz.cells64] at hall
    have hk : ∀ i, i < len → ∃ y : D3, a'.spot = none ∧ ∀ j, j < 12 → w.cell? ⟨a'.block, a'.off + i * 12 + j, none⟩ = y.list[j]? := fun i hi => by
      obtain ⟨cs', hc', ht'⟩ := hall i (by omega)
      obtain ⟨hs, y, hy⟩ := three_of hc' ht'
      have hsp : a'.spot = none := by
        obtain ⟨cs0, hc0, ht0⟩ := hall 0 (by omega)
        have := (three_of hc0 ht0).1
        simpa [Addr.add] using this
      obtain ⟨b, o, sp⟩ := a'
      simp only at hsp
      subst hsp
      rw [Go.WideShapes.add_plain] at hy
      exact ⟨y, rfl, hy⟩
    refine ⟨Nat.le_trans hl hcm, (List.range len).map fun i => if hi : i < len then (hk i hi).choose else default, .inr ⟨a', rfl, hl, by simp, fun i hi => ?_⟩⟩
    have e : ((List.range len).map fun i => if hi : i < len then (hk i hi).choose else default).getD i default = (hk i hi).choose := by
      simp [List.getD_eq_getElem?_getD, hi]
    rw [e]
    exact (hk i hi).choose_spec
end
end

section
open Go.ChangeShapes Go.WideShapes Go.ChangeAt Go.RowKit

theorem own_knob : ownKnob Tryz.prog.godebug = none := by kernel_rfl
theorem laidOut : laidOutB Tryz.prog = true := by kernel_rfl
/-- What the rows list. -/
abbrev laid5 : List (String × DataW Unit) := Rows.totalGroupsRow.laid
set_option maxRecDepth 100000 in
theorem door_met (os : Os) (args : Array Value) : laidMetH Tryz.prog laid5 ((World.doorLaid Tryz.prog 72 os).forCall (fun _ _ => 0) ⟨#[], args, []⟩).memory :=
  laidMetH_of_parts3 (fuel := 8) (laidMet_of_run' 8 (by kernel_rfl) (by kernel_rfl)) (by kernel_rfl) (by kernel_rfl)
theorem door_shaped (os : Os) (args : Array Value) : ((World.doorLaid Tryz.prog 72 os).forCall (fun _ _ => 0) ⟨#[], args, []⟩).Shaped Tryz.prog := World.shaped_of_RefB (by kernel_rfl) (by kernel_rfl)
end

section
open Go.RowKit Go


/-- What a fold of the program's answers. -/
def FoldPost (o : Option Tm) (w : World) (e : Ending) (w' : World) : Prop :=
  Fr (fun _ => False) w w' ∧ match o with
    | some t => e = .returned (.tuple #[t.val, .bool true])
    | none => e = .returned (.tuple #[.nilIface, .bool false])
theorem SumIs.uniq {l : List Tm} {s s' : Int} (h : SumIs l s) (h' : SumIs l s') : s = s' := h.2.1.trans h'.2.1.symm
open Classical in
noncomputable def psum (l : List Tm) : Option Tm := if h : ∃ s, SumIs l s then some (intTm (Classical.choose h)) else none
theorem psum_some {l : List Tm} {s : Int} (h : SumIs l s) : psum l = some (intTm s) := by
  have hh : ∃ s, SumIs l s := ⟨s, h⟩
  unfold psum
  rw [dif_pos hh, SumIs.uniq (Classical.choose_spec hh) h]
theorem psum_none {l : List Tm} (h : ∀ s, ¬ SumIs l s) : psum l = none := by
  unfold psum
  rw [dif_neg (fun ⟨s, hs⟩ => h s hs)]
def ppick (p : Tm → Tm → Bool) (l : List Tm) : Option Tm := if l.length = 0 then none else some (pickTo p l (l.length - 1))

/-! plain: the document's are the same -/
theorem ref_at (l : List Tm) (j : Nat) (h : j < l.length) : (l.map Tm.ref).getD j dt0 = (l.getD j default).ref := getD_ref l j h
theorem dSum_ref (l : List Tm) : ∀ j, j ≤ l.length → dSum (l.map Tm.ref) j = sumTo l j
  | 0, _ => rfl
  | j + 1, h => by
    unfold dSum sumTo
    rw [dSum_ref l j (by omega), ref_at l j (by omega), asInt_ref]
theorem dAll_ref (l : List Tm) : ∀ j, j ≤ l.length → (dAll (l.map Tm.ref) j = true ↔ ∀ i, i < j → (asIntT (l.getD i default)).2 = 0)
  | 0, _ => ⟨fun _ i hi => absurd hi (Nat.not_lt_zero _), fun _ => rfl⟩
  | j + 1, h => by
    unfold dAll
    rw [Bool.and_eq_true, dAll_ref l j (by omega), ref_at l j (by omega), asInt_ref, beq_iff_eq]
    constructor
    · rintro ⟨h1, h2⟩ i hi
      by_cases e : i = j
      · rw [e]
        exact h2
      · exact h1 i (by omega)
    · intro h1
      exact ⟨fun i hi => h1 i (by omega), h1 j (by omega)⟩
theorem sum_ref (l : List Tm) : (psum l).map Tm.ref = dsumO (l.map Tm.ref) := by
  have hl : (l.map Tm.ref).length = l.length := List.length_map _
  unfold dsumO
  rw [hl, dSum_ref l _ (Nat.le_refl _)]
  by_cases h : SumIs l (sumTo l l.length)
  · rw [psum_some h, if_pos ⟨(dAll_ref l _ (Nat.le_refl _)).2 h.1, h.2.2⟩]
    rfl
  · rw [psum_none (fun s hs => h (hs.2.1 ▸ hs)), if_neg (fun hh => h ⟨(dAll_ref l _ (Nat.le_refl _)).1 hh.1, rfl, hh.2⟩)]
    rfl
theorem pick_ref (p : DT → DT → Bool) (q : Tm → Tm → Bool) (hpq : ∀ x m, q x m = p x.ref m.ref) (hi : ∀ x, p x x = false) (l : List Tm) : (ppick q l).map Tm.ref = dpickO p (l.map Tm.ref) := by
  have hl : (l.map Tm.ref).length = l.length := List.length_map _
  unfold ppick dpickO
  rw [hl]
  by_cases h : l.length = 0
  · rw [if_pos h, if_pos h]
    rfl
  · rw [if_neg h, if_neg h]
    have h2 := dPick_ref p q l hpq hi (l.length - 1) (by omega)
    rw [show l.length - 1 + 1 = l.length by omega] at h2
    rw [h2]
    rfl
theorem min_ref (l : List Tm) : (ppick (fun x m => decide (x.ord m < 0)) l).map Tm.ref = dpickO (fun x m => dLess x m) (l.map Tm.ref) :=
  pick_ref _ _ (fun x m => ord_lt x m) dLess_irr l
theorem max_ref (l : List Tm) : (ppick (fun x m => decide (0 < x.ord m)) l).map Tm.ref = dpickO (fun x m => dLess m x) (l.map Tm.ref) :=
  pick_ref (fun x m => dLess m x) _ (fun x m => ord_gt x m) dLess_irr l

/-! walked -/
set_option maxRecDepth 100000 in
set_option maxHeartbeats 4000000 in
theorem pfoldC_any (vg vc B1 B2 B b r p : Nat) (v : ByteArray) (fnd : Bool) (vt vr : Value) (vals : List Value) (ts : List Tm) (room : Int) (rows : List (List Int)) (w : World) (hv : IsVar v p fnd) (hvs : (v.toList == [42]) = false) (hn : rows.length < 100) (h3 : ∀ r, r ∈ rows → r.length = 3) (hl : ts.length ≤ 100000)
    (hs : w.ownsRow B1 9 1 (.slice (some ⟨vg, 0, none⟩) 3 vc) 3 (abc.map .string)) (hr : RowsAt w B2 vr vals rows) (hd : IsDict w B b r vt ts room) :
    Calls Tryz.prog 8 #[.string ⟨#[67, 79, 85, 78, 84]⟩, .string v, .agg #[.slice (some ⟨vg, 0, none⟩) 3 vc, vr], .pointer (some ⟨b, 0, none⟩)] w (FoldPost (some (intTm (termsTo ts p fnd rows rows.length).length)) w) := by
  have HT := Lib.hid (fun wy (hf : Fr (fun _ => False) w wy) => terms_any vg vc B1 B2 B b r p v fnd vt vr vals ts room rows wy hv (by omega) h3 hl (ownsRow_fr hs hf (fun _ _ h => h)) (hr.frF hf) (hd.frF hf))
  obtain ⟨A0, c0, hvt⟩ := row_shape hr.own
  subst hvt
  have hle := (termsTo_le ts p fnd rows rows.length).1
  clear hs hr hd h3 hv
  generalize termsTo ts p fnd rows rows.length = l at *
  obtain ⟨m, hm⟩ : ∃ m, l.length = m := ⟨_, rfl⟩
  have HM := Lib.hid hm
  have HI := Lib.hid (fun w => int_small m (by omega) w)
  rw [← smallTm_int]
  rw [hm] at hle ⊢
  clear hm
  have HIT := Lib.hid (show (smallTm m).val = .iface 59 (.agg #[.string ⟨(Lib.decDigits m).toArray⟩, .string xInt, .string ⟨#[]⟩]) from rfl)
  generalize (⟨(Lib.decDigits m).toArray⟩ : ByteArray) = is at *
  generalize xInt = xi at *
  unfold FoldPost
  dsimp only
  rw [HIT.out]
  go_enter Tryz.func8, Tryz.ntmps8
  go_wp2_with fail
  refine (HT.out _ ((Fr.refl _ _).alloc _)).mono ?_
  rintro e w1 ⟨vl, rfl, hrow, hf1⟩
  have HF1 := Lib.hid (((Fr.refl (fun _ => False) w).alloc (.cells #[.slice (some ⟨vg, 0, none⟩) 3 vc, .slice A0 rows.length c0] 29)).trans' hf1)
  obtain ⟨Al, cl, hvl⟩ := row_shape hrow
  subst hvl
  rw [HM.out]
  clear hf1 hrow
  go_wp2_with fail
  with_reducible refine (HI.out _).mono ?_
  rintro e w2 ⟨rfl, hf2⟩
  have HF2 := Lib.hid (HF1.out.trans' hf2)
  clear hf2
  go_wp2_with fail
  go_ret2
  exact ⟨HF2.out, rfl⟩
set_option maxRecDepth 100000 in
set_option maxHeartbeats 4000000 in
theorem pfoldS_any (vg vc B1 B2 B b r p : Nat) (v : ByteArray) (fnd : Bool) (vt vr : Value) (vals : List Value) (ts : List Tm) (room : Int) (rows : List (List Int)) (w : World) (hv : IsVar v p fnd) (hvs : (v.toList == [42]) = false) (hn : rows.length ≤ 100) (h3 : ∀ r, r ∈ rows → r.length = 3) (hl : ts.length ≤ 100000) (hsh : ∀ t, t ∈ ts → t.short)
    (hs : w.ownsRow B1 9 1 (.slice (some ⟨vg, 0, none⟩) 3 vc) 3 (abc.map .string)) (hr : RowsAt w B2 vr vals rows) (hd : IsDict w B b r vt ts room) (hg : Glob w) :
    Calls Tryz.prog 8 #[.string ⟨#[83, 85, 77]⟩, .string v, .agg #[.slice (some ⟨vg, 0, none⟩) 3 vc, vr], .pointer (some ⟨b, 0, none⟩)] w (FoldPost (psum (termsTo ts p fnd rows rows.length)) w) := by
  have HT := Lib.hid (fun wy (hf : Fr (fun _ => False) w wy) => terms_any vg vc B1 B2 B b r p v fnd vt vr vals ts room rows wy hv (by omega) h3 hl (ownsRow_fr hs hf (fun _ _ h => h)) (hr.frF hf) (hd.frF hf))
  obtain ⟨A0, c0, hvt⟩ := row_shape hr.own
  subst hvt
  have HG := Lib.hid hg
  have HLE := Lib.hid (termsTo_le ts p fnd rows rows.length)
  have HSH := Lib.hid hsh
  clear hs hr hd hg hsh h3 hv
  generalize termsTo ts p fnd rows rows.length = l at *
  go_enter Tryz.func8, Tryz.ntmps8
  go_wp2_with fail
  refine (HT.out _ ((Fr.refl _ _).alloc _)).mono ?_
  rintro e w1 ⟨vl, rfl, hrow, hf1⟩
  have F1 : Fr (fun _ => False) w w1 := ((Fr.refl _ w).alloc _).trans' hf1
  have HF1 := Lib.hid F1
  have HS := Lib.hid (sum_any _ vl l w1 (by have := HLE.out.1; omega) (fun t ht => HSH.out t (HLE.out.2 t ht)) hrow (HG.out.fr F1))
  obtain ⟨Al, cl, hvl⟩ := row_shape hrow
  subst hvl
  clear hf1 F1 hrow
  go_wp2_with fail
  refine HS.out.mono ?_
  rintro e w2 ⟨hf2, ⟨s, rfl, hs⟩ | ⟨rfl, hs⟩⟩
  · have HF2 := Lib.hid (HF1.out.trans' hf2)
    have HPS := Lib.hid (psum_some hs)
    unfold intTm Tm.val
    have HIT := Lib.hid (show (intTm s).val = .iface 59 (.agg #[.string ⟨(Lib.itoa s).toArray⟩, .string xInt, .string ⟨#[]⟩]) from rfl)
    generalize (⟨(Lib.itoa s).toArray⟩ : ByteArray) = is at *
    generalize xInt = xi at *
    clear hf2 hs
    go_wp2_with fail
    go_ret2
    unfold FoldPost
    rw [HPS.out]
    exact ⟨HF2.out, by dsimp only; rw [HIT.out]; rfl⟩
  · have HF2 := Lib.hid (HF1.out.trans' hf2)
    have HPS := Lib.hid (psum_none hs)
    clear hf2 hs
    go_wp2_with fail
    go_ret2
    unfold FoldPost
    rw [HPS.out]
    exact ⟨HF2.out, rfl⟩
set_option maxRecDepth 100000 in
set_option maxHeartbeats 4000000 in
theorem pfoldN_any (vg vc B1 B2 B b r p : Nat) (v : ByteArray) (fnd : Bool) (vt vr : Value) (vals : List Value) (ts : List Tm) (room : Int) (rows : List (List Int)) (w : World) (hv : IsVar v p fnd) (hvs : (v.toList == [42]) = false) (hn : rows.length ≤ 100) (h3 : ∀ r, r ∈ rows → r.length = 3) (hl : ts.length ≤ 100000)
    (hs : w.ownsRow B1 9 1 (.slice (some ⟨vg, 0, none⟩) 3 vc) 3 (abc.map .string)) (hr : RowsAt w B2 vr vals rows) (hd : IsDict w B b r vt ts room) :
    Calls Tryz.prog 8 #[.string ⟨#[77, 73, 78]⟩, .string v, .agg #[.slice (some ⟨vg, 0, none⟩) 3 vc, vr], .pointer (some ⟨b, 0, none⟩)] w (FoldPost (ppick (fun x m => decide (x.ord m < 0)) (termsTo ts p fnd rows rows.length)) w) := by
  have HT := Lib.hid (fun wy (hf : Fr (fun _ => False) w wy) => terms_any vg vc B1 B2 B b r p v fnd vt vr vals ts room rows wy hv (by omega) h3 hl (ownsRow_fr hs hf (fun _ _ h => h)) (hr.frF hf) (hd.frF hf))
  obtain ⟨A0, c0, hvt⟩ := row_shape hr.own
  subst hvt
  have hle := (termsTo_le ts p fnd rows rows.length).1
  clear hs hr hd h3 hv
  generalize termsTo ts p fnd rows rows.length = l at *
  have HPK := Lib.hid (show ppick (fun x m => decide (x.ord m < 0)) l = if l.length = 0 then none else some (pickTo (fun x m => decide (x.ord m < 0)) l (l.length - 1)) from rfl)
  have HMF := Lib.hid (fun B v w (h0 : 0 < l.length) hr => minF_any B v l w (by omega) h0 hr)
  obtain ⟨m, hm⟩ : ∃ m, l.length = m := ⟨_, rfl⟩
  have HM := Lib.hid hm
  rw [hm] at hle HPK
  go_enter Tryz.func8, Tryz.ntmps8
  go_wp2_with fail
  refine (HT.out _ ((Fr.refl _ _).alloc _)).mono ?_
  rintro e w1 ⟨vl, rfl, hrow, hf1⟩
  have HF1 := Lib.hid (((Fr.refl (fun _ => False) w).alloc (.cells #[.slice (some ⟨vg, 0, none⟩) 3 vc, .slice A0 rows.length c0] 29)).trans' hf1)
  have HROW := Lib.hid hrow
  obtain ⟨Al, cl, hvl⟩ := row_shape hrow
  subst hvl
  rw [HM.out]
  have HROW2 := Lib.hid (show w1.ownsRow _ 37 1 (.slice Al m cl) l.length (l.map Tm.val) from by have h := hrow; rw [HM.out] at h ⊢; exact h)
  clear hf1 hrow HROW hm
  by_cases h0 : m = 0
  · have HP0 := Lib.hid (show ppick (fun x m => decide (x.ord m < 0)) l = none from by rw [HPK.out, if_pos h0])
    subst h0
    have h0' : (((0 : Nat) : Int) == 0) = true := rfl
    go_wp2_with fail
    go_ret2
    rw [HP0.out]
    exact ⟨HF1.out, rfl⟩
  · have h0' : ((m : Int) == 0) = false := by simp [h0]
    have HMN := Lib.hid (HMF.out _ _ _ (by rw [HM.out]; omega) HROW2.out)
    rw [HM.out, if_neg h0] at *
    obtain ⟨pk, hpk⟩ : ∃ pk, pickTo (fun x m => decide (x.ord m < 0)) l (m - 1) = pk := ⟨_, rfl⟩
    rw [hpk] at HMN HPK
    obtain ⟨d, x, hdx⟩ := pk.shape
    have HDX := Lib.hid hdx
    rw [hdx] at HMN
    clear hpk hdx
    go_wp2_with fail
    with_reducible refine HMN.out.mono ?_
    rintro e w2 ⟨rfl, hf2⟩
    have HF2 := Lib.hid (HF1.out.trans' hf2)
    clear hf2
    go_wp2_with fail
    go_ret2
    rw [HPK.out]
    exact ⟨HF2.out, by dsimp only; rw [HDX.out]; rfl⟩
set_option maxRecDepth 100000 in
set_option maxHeartbeats 4000000 in
theorem pfoldX_any (vg vc B1 B2 B b r p : Nat) (v : ByteArray) (fnd : Bool) (vt vr : Value) (vals : List Value) (ts : List Tm) (room : Int) (rows : List (List Int)) (w : World) (hv : IsVar v p fnd) (hvs : (v.toList == [42]) = false) (hn : rows.length ≤ 100) (h3 : ∀ r, r ∈ rows → r.length = 3) (hl : ts.length ≤ 100000)
    (hs : w.ownsRow B1 9 1 (.slice (some ⟨vg, 0, none⟩) 3 vc) 3 (abc.map .string)) (hr : RowsAt w B2 vr vals rows) (hd : IsDict w B b r vt ts room) :
    Calls Tryz.prog 8 #[.string ⟨#[77, 65, 88]⟩, .string v, .agg #[.slice (some ⟨vg, 0, none⟩) 3 vc, vr], .pointer (some ⟨b, 0, none⟩)] w (FoldPost (ppick (fun x m => decide (0 < x.ord m)) (termsTo ts p fnd rows rows.length)) w) := by
  have HT := Lib.hid (fun wy (hf : Fr (fun _ => False) w wy) => terms_any vg vc B1 B2 B b r p v fnd vt vr vals ts room rows wy hv (by omega) h3 hl (ownsRow_fr hs hf (fun _ _ h => h)) (hr.frF hf) (hd.frF hf))
  obtain ⟨A0, c0, hvt⟩ := row_shape hr.own
  subst hvt
  have hle := (termsTo_le ts p fnd rows rows.length).1
  clear hs hr hd h3 hv
  generalize termsTo ts p fnd rows rows.length = l at *
  have HPK := Lib.hid (show ppick (fun x m => decide (0 < x.ord m)) l = if l.length = 0 then none else some (pickTo (fun x m => decide (0 < x.ord m)) l (l.length - 1)) from rfl)
  have HMF := Lib.hid (fun B v w (h0 : 0 < l.length) hr => maxF_any B v l w (by omega) h0 hr)
  obtain ⟨m, hm⟩ : ∃ m, l.length = m := ⟨_, rfl⟩
  have HM := Lib.hid hm
  rw [hm] at hle HPK
  go_enter Tryz.func8, Tryz.ntmps8
  go_wp2_with fail
  refine (HT.out _ ((Fr.refl _ _).alloc _)).mono ?_
  rintro e w1 ⟨vl, rfl, hrow, hf1⟩
  have HF1 := Lib.hid (((Fr.refl (fun _ => False) w).alloc (.cells #[.slice (some ⟨vg, 0, none⟩) 3 vc, .slice A0 rows.length c0] 29)).trans' hf1)
  have HROW := Lib.hid hrow
  obtain ⟨Al, cl, hvl⟩ := row_shape hrow
  subst hvl
  rw [HM.out]
  have HROW2 := Lib.hid (show w1.ownsRow _ 37 1 (.slice Al m cl) l.length (l.map Tm.val) from by have h := hrow; rw [HM.out] at h ⊢; exact h)
  clear hf1 hrow HROW hm
  by_cases h0 : m = 0
  · have HP0 := Lib.hid (show ppick (fun x m => decide (0 < x.ord m)) l = none from by rw [HPK.out, if_pos h0])
    subst h0
    have h0' : (((0 : Nat) : Int) == 0) = true := rfl
    go_wp2_with fail
    go_ret2
    rw [HP0.out]
    exact ⟨HF1.out, rfl⟩
  · have h0' : ((m : Int) == 0) = false := by simp [h0]
    have HMN := Lib.hid (HMF.out _ _ _ (by rw [HM.out]; omega) HROW2.out)
    rw [HM.out, if_neg h0] at *
    obtain ⟨pk, hpk⟩ : ∃ pk, pickTo (fun x m => decide (0 < x.ord m)) l (m - 1) = pk := ⟨_, rfl⟩
    rw [hpk] at HMN HPK
    obtain ⟨d, x, hdx⟩ := pk.shape
    have HDX := Lib.hid hdx
    rw [hdx] at HMN
    clear hpk hdx
    go_wp2_with fail
    with_reducible refine HMN.out.mono ?_
    rintro e w2 ⟨rfl, hf2⟩
    have HF2 := Lib.hid (HF1.out.trans' hf2)
    clear hf2
    go_wp2_with fail
    go_ret2
    rw [HPK.out]
    exact ⟨HF2.out, by dsimp only; rw [HDX.out]; rfl⟩
end

section
open Go.RowKit Go


/-- The folds' names. -/
def fName (k : Nat) : ByteArray := if k = 0 then ⟨#[67, 79, 85, 78, 84]⟩ else if k = 1 then ⟨#[83, 85, 77]⟩ else if k = 2 then ⟨#[77, 73, 78]⟩ else ⟨#[77, 65, 88]⟩
theorem var_name (j : Nat) (hj : j < 4) : IsVar (vName j) j (decide (j < 3)) := by
  have h : j = 0 ∨ j = 1 ∨ j = 2 ∨ j = 3 := by omega
  rcases h with rfl | rfl | rfl | rfl
  · exact var_a
  · exact var_b
  · exact var_c
  · exact var_d
theorem var_star : ∀ j, j < 4 → ((vName j).toList == [42]) = false := by decide +kernel
theorem bTo_refs (zs : List D3) : ∀ n i, ((bTo zs n).refs.getD i []).length ≤ 3
  | 0, i => Nat.zero_le _
  | n + 1, i => by
    obtain ⟨_, hr, _, _⟩ := bTo_len zs n
    unfold bTo
    dsimp only
    rw [getD_snoc, hr]
    split
    · exact (bRowTo_bs _ _ 3).1
    · exact bTo_refs zs n i
theorem ref_short (t : Tm) (h : t.short) : t.ref.text.size ≤ 4096 := by
  cases t with
  | bla a => exact h
  | iri a => exact h
  | lit a b c => exact h.1
/-- Both folds, of one table and of the document's rows. -/
theorem fold_both (k j n : Nat) (hk : k < 4) (hj : j < 4) (star : Bool) (hst : star = true → k = 0) (zs : List D3) (vg vc B b r : Nat) (vt vr vf : Value) (vals valf : List Value) (w : World) (hn8 : n ≤ 8)
    (hok : ∀ i, i < n → ∀ k, k < 3 → dOk ((zs.getD i default).at k) = true) (hs : w.ownsRow B 9 1 (.slice (some ⟨vg, 0, none⟩) 3 vc) 3 (abc.map .string)) (hr : RowsAt w B vr vals (bTo zs n).rows) (hd : IsDict w B b r vt (bTo zs n).ts 1000) (hf : RefsAt w B vf valf (bTo zs n).refs) (hg : Glob w) :
    ∃ o : Option Tm, (∀ wy, Fr (fun _ => False) w wy → Calls Tryz.prog 8 #[.string (fName k), .string (if star = true then ⟨#[42]⟩ else vName j), .agg #[.slice (some ⟨vg, 0, none⟩) 3 vc, vr], .pointer (some ⟨b, 0, none⟩)] wy (FoldPost o wy)) ∧
      (∀ wy, Fr (fun _ => False) w wy → Calls Tryz.prog 9 #[.agg #[.string ⟨#[]⟩, .string (fName k), .string (if star = true then ⟨#[42]⟩ else vName j)], vf] wy (GetPost (o.map Tm.ref) wy)) := by
  obtain ⟨hrl, hfl, htl, hr3⟩ := bTo_len zs n
  have hsh := bTo_short zs n hok
  have h3 : ∀ r, r ∈ (bTo zs n).rows → r.length = 3 := fun r hr => (hr3 r hr).1
  have hb : ∀ i, i < (bTo zs n).refs.length → ((bTo zs n).refs.getD i []).length ≤ 100 := fun i _ => by have := bTo_refs zs n i; omega
  have htm : (termsTo (bTo zs n).ts j (decide (j < 3)) (bTo zs n).rows (bTo zs n).rows.length).map Tm.ref = dTerms (bTo zs n).refs (vName j) (bTo zs n).refs.length := by
    rw [hrl, hfl]
    exact terms_ref zs n j (by omega) hj n (Nat.le_refl _)
  cases star with
  | true =>
    obtain rfl := hst rfl
    rw [if_pos rfl]
    obtain ⟨A0, c0, rfl⟩ := row_shape hr.own
    refine ⟨some (intTm (n : Int)), fun wy hf1 => ?_, fun wy hf1 => ?_⟩
    · refine (foldAll_any _ .nilIface 3 vc c0 A0 (some ⟨vg, 0, none⟩) (bTo zs n).rows.length (by omega) _ wy).mono fun e w' h => ⟨h.2, ?_⟩
      dsimp only
      rw [h.1, hrl, smallTm_int]
    · refine (dfoldA_any B _ _ vf valf (bTo zs n).refs wy (by omega) (hf.frF hf1)).mono fun e w' h => ?_
      rw [hfl] at h
      exact h
  | false =>
    rw [if_neg (by decide)]
    have hv := var_name j hj
    have hvs := var_star j hj
    have h4 : k = 0 ∨ k = 1 ∨ k = 2 ∨ k = 3 := by omega
    rcases h4 with rfl | rfl | rfl | rfl
    · refine ⟨_, fun wy hf1 => pfoldC_any vg vc B B B b r j (vName j) (decide (j < 3)) vt vr vals (bTo zs n).ts 1000 (bTo zs n).rows wy hv hvs (by omega) h3 (by omega) (ownsRow_fr hs hf1 (fun _ _ h => h)) (hr.frF hf1) (hd.frF hf1), fun wy hf1 => ?_⟩
      refine (dfoldC_any B _ (vName j) vf valf (bTo zs n).refs wy hvs (by omega) hb (hf.frF hf1)).mono fun e w' h => ?_
      rw [← htm, List.length_map] at h
      exact h
    · refine ⟨_, fun wy hf1 => pfoldS_any vg vc B B B b r j (vName j) (decide (j < 3)) vt vr vals (bTo zs n).ts 1000 (bTo zs n).rows wy hv hvs (by omega) h3 (by omega) hsh (ownsRow_fr hs hf1 (fun _ _ h => h)) (hr.frF hf1) (hd.frF hf1) (hg.fr hf1), fun wy hf1 => ?_⟩
      refine (dfoldS_any B _ (vName j) vf valf (bTo zs n).refs wy hvs (by omega) hb (hf.frF hf1) (fun t ht => ?_)).mono fun e w' h => ?_
      · rw [← htm, List.mem_map] at ht
        obtain ⟨u, hu, rfl⟩ := ht
        exact ref_short u (hsh u ((termsTo_le _ _ _ _ _).2 u hu))
      · rw [← htm, ← sum_ref] at h
        exact h
    · refine ⟨_, fun wy hf1 => pfoldN_any vg vc B B B b r j (vName j) (decide (j < 3)) vt vr vals (bTo zs n).ts 1000 (bTo zs n).rows wy hv hvs (by omega) h3 (by omega) (ownsRow_fr hs hf1 (fun _ _ h => h)) (hr.frF hf1) (hd.frF hf1), fun wy hf1 => ?_⟩
      refine (dfoldN_any B _ (vName j) vf valf (bTo zs n).refs wy hvs (by omega) hb (hf.frF hf1)).mono fun e w' h => ?_
      rw [← htm, ← min_ref] at h
      exact h
    · refine ⟨_, fun wy hf1 => pfoldX_any vg vc B B B b r j (vName j) (decide (j < 3)) vt vr vals (bTo zs n).ts 1000 (bTo zs n).rows wy hv hvs (by omega) h3 (by omega) (ownsRow_fr hs hf1 (fun _ _ h => h)) (hr.frF hf1) (hd.frF hf1), fun wy hf1 => ?_⟩
      refine (dfoldX_any B _ (vName j) vf valf (bTo zs n).refs wy hvs (by omega) hb (hf.frF hf1)).mono fun e w' h => ?_
      rw [← htm, ← max_ref] at h
      exact h

theorem idx_fold (p : Int) (h0 : 0 ≤ p) : ∃ k : Nat, k < 4 ∧ p % 4 = (k : Int) ∧ ∀ w, (Instr.index 33 (.agg #[.string ⟨#[67, 79, 85, 78, 84]⟩, .string ⟨#[83, 85, 77]⟩, .string ⟨#[77, 73, 78]⟩, .string ⟨#[77, 65, 88]⟩]) (.int .u8 (p % 4))).run Tryz.prog w = .ok (.string (fName k)) w := by
  have h5 : p % 4 = 0 ∨ p % 4 = 1 ∨ p % 4 = 2 ∨ p % 4 = 3 := by omega
  rcases h5 with h | h | h | h
  · exact ⟨0, by decide, h, fun w => by rw [h]; kernel_rfl⟩
  · exact ⟨1, by decide, h, fun w => by rw [h]; kernel_rfl⟩
  · exact ⟨2, by decide, h, fun w => by rw [h]; kernel_rfl⟩
  · exact ⟨3, by decide, h, fun w => by rw [h]; kernel_rfl⟩
theorem idx_var (p : Int) (h0 : 0 ≤ p) : ∃ k : Nat, k < 4 ∧ p % 4 = (k : Int) ∧ ∀ w, (Instr.index 33 (.agg #[.string ⟨#[97]⟩, .string ⟨#[98]⟩, .string ⟨#[99]⟩, .string ⟨#[100]⟩]) (.int .u8 (p % 4))).run Tryz.prog w = .ok (.string (vName k)) w := by
  have h5 : p % 4 = 0 ∨ p % 4 = 1 ∨ p % 4 = 2 ∨ p % 4 = 3 := by omega
  rcases h5 with h | h | h | h
  · exact ⟨0, by decide, h, fun w => by rw [h]; kernel_rfl⟩
  · exact ⟨1, by decide, h, fun w => by rw [h]; kernel_rfl⟩
  · exact ⟨2, by decide, h, fun w => by rw [h]; kernel_rfl⟩
  · exact ⟨3, by decide, h, fun w => by rw [h]; kernel_rfl⟩
theorem eq_ref (k : Int) (t y l : ByteArray) : ∀ w, (binOp .eql 41 (.agg #[.int .i64 k, .string t, .string y, .string l]) (.agg #[.int .i64 k, .string t, .string y, .string l])).run Tryz.prog w = .ok (.bool true) w := by
  intro w
  go_simp
set_option maxRecDepth 100000 in
set_option maxHeartbeats 4000000 in
theorem foldsLaw_any (p0 p1 : Int) (h00 : 0 ≤ p0) (h01 : p0 ≤ 255) (h10 : 0 ≤ p1) (h11 : p1 ≤ 255) (a : Option Addr) (len cap : Nat) (zs : List D3) (w : World) (hin : IsIn w a len cap zs) (hlen : len ≤ maxLen) (hg : Glob w) :
    Calls Tryz.prog 3 #[.agg #[.int .u8 p0, .int .u8 p1], .slice a len cap] w (IsB true w) := by
  have HA := Lib.hid (fun w => awake_any w)
  have HIN := Lib.hid hin
  have HL := Lib.hid hlen
  have HG := Lib.hid hg
  have HBX := Lib.hid (Blk.new w 22 #[.int .u8 p0, .int .u8 p1])
  clear hin hlen hg
  go_enter Tryz.func3, Tryz.ntmps3
  go_wp2_with fail
  refine (HA.out _).mono ?_
  rintro e w1 ⟨rfl, hf1⟩
  have F1 : Fr (fun _ => False) w w1 := ((Fr.refl (fun _ => False) w).alloc (.cells #[.int .u8 p0, .int .u8 p1] 22)).trans' hf1
  have HF1 := Lib.hid F1
  have HBX1 := Lib.hid (HBX.out.fr hf1 (fun h => h))
  have HB := Lib.hid (build_any a len cap zs w1 (HIN.out.later F1) HL.out)
  clear hf1 F1
  go_wp2_with fail
  refine HB.out.mono ?_
  rintro e w2 (⟨rfl, hf2⟩ | ⟨n, b, r, vt, tv, vf, vals, hn8, hnz, rfl, hd, ht, hr, hf2, hok⟩)
  · have HF2 := Lib.hid (HF1.out.trans' hf2)
    clear hf2
    go_wp2_with fail
    go_ret
    exact ⟨rfl, HF2.out.alloc _⟩
  · have HF2 := Lib.hid (HF1.out.trans' hf2)
    have HBX2 := Lib.hid (HBX1.out.fr hf2 (fun h => h))
    obtain ⟨vg, vc, vr, rvals, rfl, hvars, hrows⟩ := ht
    obtain ⟨k, hk, hpk, hix0⟩ := idx_fold p0 h00
    obtain ⟨j, hj, hpj, hix1⟩ := idx_var p1 h10
    obtain ⟨star, hstar⟩ : ∃ star, (decide (k = 0) && decide (3 < p1 % 8)) = star := ⟨_, rfl⟩
    obtain ⟨o, hp8, hp9⟩ := fold_both k j n hk hj star (fun h => by rw [h, Bool.and_eq_true] at hstar; exact of_decide_eq_true hstar.1) zs vg vc w1.heap.size b r vt vr vf rvals vals w2 hn8 hok hvars hrows hd hr (HG.out.fr HF2.out)
    have HP8 := Lib.hid hp8
    have HP9 := Lib.hid hp9
    obtain ⟨A0, c0, hvr⟩ := row_shape hrows.own
    subst hvr
    obtain ⟨A1, c1, hvf⟩ := row_shape hr.own
    subst hvf
    have c0' : w2.cell? ⟨w.heap.size, 0, none⟩ = some (.int .u8 p0) := HBX2.out.cell 0
    have c1' : w2.cell? ⟨w.heap.size, 1, none⟩ = some (.int .u8 p1) := HBX2.out.cell 1
    have hbl := HBX2.out.lt
    have hm0 : p0.tmod 4 = p0 % 4 := Int.tmod_eq_emod_of_nonneg h00
    have hm1 : p1.tmod 4 = p1 % 4 := Int.tmod_eq_emod_of_nonneg h10
    have hm8 : p1.tmod 8 = p1 % 8 := Int.tmod_eq_emod_of_nonneg h10
    rw [hpk] at hix0
    rw [hpj] at hix1
    generalize fName k = f at *
    generalize vName j = v at *
    clear hp8 hp9 hf2 hok hd hvars hrows hr
    have HS := Lib.hid (fun (w' : World) (hf : Fr (fun _ => False) w2 w') => (⟨cell_fr hf c0', cell_fr hf c1'⟩ : w'.cell? ⟨w.heap.size, 0, none⟩ = some (.int .u8 p0) ∧ w'.cell? ⟨w.heap.size, 1, none⟩ = some (.int .u8 p1)))
    have hn6 := Blk.new w2 29 #[.slice (some ⟨vg, 0, none⟩) 3 vc, .slice A0 (bTo zs n).rows.length c0]
    have hn9 := Blk.new (w2.alloc (.cells #[.slice (some ⟨vg, 0, none⟩) 3 vc, .slice A0 (bTo zs n).rows.length c0] 29)) 35 #[.string ⟨#[]⟩, .string f, .string v]
    rw [show (w2.alloc (.cells #[.slice (some ⟨vg, 0, none⟩) 3 vc, .slice A0 (bTo zs n).rows.length c0] 29)).heap.size = w2.heap.size + 1 by simp] at hn9
    have HN6 := Lib.hid (hn6.alloc (.cells #[.string ⟨#[]⟩, .string f, .string v] 35)).drew
    have HN9 := Lib.hid hn9.drew
    have HNF := Lib.hid ((((Fr.refl (fun _ => False) w2).alloc (.cells #[.slice (some ⟨vg, 0, none⟩) 3 vc, .slice A0 (bTo zs n).rows.length c0] 29)).alloc (.cells #[.string ⟨#[]⟩, .string f, .string v] 35)).drew)
    clear hn6 hn9
    go_upto_region 6 with (fail)
    go_cut [9] from 25 to 35 (fun p wx => p = .pointer (some ⟨w2.heap.size + 1, 0, none⟩) ∧ Blk wx (w2.heap.size + 1) 35 #[.string ⟨#[]⟩, .string f, .string v] ∧ Blk wx w2.heap.size 29 #[.slice (some ⟨vg, 0, none⟩) 3 vc, .slice A0 (bTo zs n).rows.length c0] ∧ Fr (fun _ => False) w2 wx)
    case first =>
      go_region_held3 (fun w' => w'.cell? ⟨w.heap.size, 0, none⟩ = some (.int .u8 p0) ∧ w'.cell? ⟨w.heap.size, 1, none⟩ = some (.int .u8 p1))
        (first | exact HS.out _ ((Fr.refl (fun _ => False) w2).alloc _).drew | exact HS.out _ (((Fr.refl (fun _ => False) w2).alloc _).drew.alloc _) | exact HS.out _ (((Fr.refl (fun _ => False) w2).alloc _).alloc _).drew)
        (fail)
      all_goals (go_wp2_with fail)
      all_goals go_meet
      all_goals exact ⟨rfl, HN9.out, HN6.out, HNF.out⟩
    case rest =>
      obtain ⟨rfl, hb9, hb6, hfc⟩ := hcut
      obtain ⟨v', hv'⟩ : ∃ v', (if star = true then (⟨#[42]⟩ : ByteArray) else v) = v' := ⟨_, rfl⟩
      rw [hv'] at HP8 HP9
      have HV := Lib.hid hv'
      clear hv'
      obtain ⟨w3, rfl⟩ : ∃ w3, w3 = wc := ⟨wc, rfl⟩
      have HB9 := Lib.hid hb9
      have HB6 := Lib.hid hb6
      have HFC := Lib.hid hfc
      obtain ⟨t0, t1⟩ := HS.out _ hfc
      have u0 := hb9.cell 0
      have u1 := hb9.cell 1
      have u2 := hb9.cell 2
      have y2 := hb9.frozen 2
      have k0 := hb6.cell 0
      have k1 := hb6.cell 1
      simp only [List.getElem?_toArray, List.getElem?_cons_zero, List.getElem?_cons_succ] at u0 u1 u2 k0 k1
      clear hb9 hb6 hfc c0' c1' hix0 hix1
      cases star with
      | true =>
        rw [Bool.and_eq_true, decide_eq_true_eq, decide_eq_true_eq] at hstar
        obtain ⟨hk0, h8⟩ := hstar
        subst hk0
        have hz : ((((0 : Nat) : Int)) == 0) = true := rfl
        obtain rfl : v' = ⟨#[42]⟩ := by rw [← HV.out, if_pos rfl]
        go_wp2_with fail
        have HFX := Lib.hid (HFC.out.setCell ⟨w2.heap.size + 1, 2, none⟩ (fun h => absurd h (by simp)) (.string ⟨#[42]⟩))
        have HBX9 : Hid (Blk _ (w2.heap.size + 1) 35 #[.string ⟨#[]⟩, .string f, .string ⟨#[42]⟩]) := Lib.hid (HB9.out.set_ 2 (.string ⟨#[42]⟩))
        with_reducible refine (HP8.out _ HFX.out).mono ?_
        rintro e w5 ⟨hf5, he5⟩
        have b9 := HBX9.out.fr hf5 (fun h => h)
        have u0 := b9.cell 0
        have u1 := b9.cell 1
        have u2 := b9.cell 2
        simp only [List.getElem?_toArray, List.getElem?_cons_zero, List.getElem?_cons_succ] at u0 u1 u2
        have HF5 := Lib.hid (HFX.out.trans' hf5)
        clear hf5 b9
        cases o with
        | none =>
          obtain rfl := he5
          go_wp2_with fail
          with_reducible refine (HP9.out _ HF5.out).mono ?_
          rintro e w6 ⟨hf6, he6⟩
          obtain rfl := (show e = .returned (.tuple #[.agg #[.int .i64 0, .string ⟨#[]⟩, .string ⟨#[]⟩, .string ⟨#[]⟩], .bool false]) from he6)
          have HF6 := Lib.hid ((HF2.out.trans' HF5.out).trans' hf6)
          clear hf6
          go_wp2_with fail
          refine wp_region_noPanic ?_
          refine wp_region_held_drew (S := (fun _ => True)) (by kernel_rfl) ?_ (fun hHeld => ?_)
          · exact trivial
          refine wpAnyH_take (i := 0) (oi := _) (v := ?_) (by simp only [List.getElem?_toArray, List.getElem?_cons_zero]; rfl) (by kernel_rfl) (by kernel_rfl) (by kernel_rfl) (fun _ _ _ h => h) (Or.inl ⟨by rfl, ?_⟩) (by assumption) ?_
          rotate_left
          · intro w hSw
            try dsimp only at hSw
            go_simp
            all_goals (with_reducible rfl)
          try simp only [Act.put, List.setIfInBounds_toArray, List.set_cons_zero, List.set_cons_succ]
          refine wpAnyH_take (i := 1) (oi := _) (v := ?_) (by simp only [List.getElem?_toArray, List.getElem?_cons_zero, List.getElem?_cons_succ]; rfl) (by kernel_rfl) (by kernel_rfl) (by kernel_rfl) (fun _ _ _ h => h) (Or.inl ⟨by rfl, ?_⟩) (by assumption) ?_
          rotate_left
          · intro w hSw
            try dsimp only at hSw
            go_simp
            all_goals (with_reducible rfl)
          try simp only [Act.put, List.setIfInBounds_toArray, List.set_cons_zero, List.set_cons_succ]
          refine wpAnyH_take (i := 2) (oi := _) (v := ?_) (by simp only [List.getElem?_toArray, List.getElem?_cons_zero, List.getElem?_cons_succ]; rfl) (by kernel_rfl) (by kernel_rfl) (by kernel_rfl) (fun _ _ _ h => h) (Or.inl ⟨by rfl, ?_⟩) (by assumption) ?_
          rotate_left
          · intro w hSw
            try dsimp only at hSw
            go_simp
            all_goals (with_reducible rfl)
          try simp only [Act.put, List.setIfInBounds_toArray, List.set_cons_zero, List.set_cons_succ]
          refine wpAnyH_take (i := 3) (oi := _) (v := ?_) (by simp only [List.getElem?_toArray, List.getElem?_cons_zero, List.getElem?_cons_succ]; rfl) (by kernel_rfl) (by kernel_rfl) (by kernel_rfl) (fun _ _ _ h => h) (Or.inl ⟨by rfl, ?_⟩) (by assumption) ?_
          rotate_left
          · intro w hSw
            try dsimp only at hSw
            go_simp
            all_goals (with_reducible rfl)
          try simp only [Act.put, List.setIfInBounds_toArray, List.set_cons_zero, List.set_cons_succ]
          refine wpAnyH_take (i := 4) (oi := _) (v := ?_) (by simp only [List.getElem?_toArray, List.getElem?_cons_zero, List.getElem?_cons_succ]; rfl) (by kernel_rfl) (by kernel_rfl) (by kernel_rfl) (fun _ _ _ h => h) (Or.inl ⟨by rfl, ?_⟩) (by assumption) ?_
          rotate_left
          · intro w hSw
            try dsimp only at hSw
            go_simp
            all_goals (with_reducible rfl)
          try simp only [Act.put, List.setIfInBounds_toArray, List.set_cons_zero, List.set_cons_succ]
          refine wpAnyH_take (i := 5) (oi := _) (v := ?_) (by simp only [List.getElem?_toArray, List.getElem?_cons_zero, List.getElem?_cons_succ]; rfl) (by kernel_rfl) (by kernel_rfl) (by kernel_rfl) (fun _ _ _ h => h) (Or.inl ⟨by rfl, ?_⟩) (by assumption) ?_
          rotate_left
          · intro w hSw
            try dsimp only at hSw
            go_simp
            all_goals (with_reducible rfl)
          try simp only [Act.put, List.setIfInBounds_toArray, List.set_cons_zero, List.set_cons_succ]
          refine wpAnyH_take (i := 6) (oi := _) (v := ?_) (by simp only [List.getElem?_toArray, List.getElem?_cons_zero, List.getElem?_cons_succ]; rfl) (by kernel_rfl) (by kernel_rfl) (by kernel_rfl) (fun _ _ _ h => h) (Or.inl ⟨by rfl, ?_⟩) (by assumption) ?_
          rotate_left
          · intro w hSw
            try dsimp only at hSw
            go_simp
            all_goals (with_reducible rfl)
          try simp only [Act.put, List.setIfInBounds_toArray, List.set_cons_zero, List.set_cons_succ]
          refine wpAnyH_take (i := 7) (oi := _) (v := undef) (by simp only [List.getElem?_toArray, List.getElem?_cons_zero, List.getElem?_cons_succ]; rfl) (by kernel_rfl) (by kernel_rfl) (by kernel_rfl) (fun _ _ _ h => h) (Or.inr ⟨by rfl, rfl⟩) (by assumption) ?_
          try simp only [Act.put, List.setIfInBounds_toArray, List.set_cons_zero, List.set_cons_succ]
          refine wpAnyH_take (i := 8) (oi := _) (v := undef) (by simp only [List.getElem?_toArray, List.getElem?_cons_zero, List.getElem?_cons_succ]; rfl) (by kernel_rfl) (by kernel_rfl) (by kernel_rfl) (fun _ _ _ h => h) (Or.inr ⟨by rfl, rfl⟩) (by assumption) ?_
          try simp only [Act.put, List.setIfInBounds_toArray, List.set_cons_zero, List.set_cons_succ]
          refine wpAnyH_take (i := 9) (oi := _) (v := undef) (by simp only [List.getElem?_toArray, List.getElem?_cons_zero, List.getElem?_cons_succ]; rfl) (by kernel_rfl) (by kernel_rfl) (by kernel_rfl) (fun _ _ _ h => h) (Or.inr ⟨by rfl, rfl⟩) (by assumption) ?_
          try simp only [Act.put, List.setIfInBounds_toArray, List.set_cons_zero, List.set_cons_succ]
          refine wpAnyH_take (i := 10) (oi := _) (v := undef) (by simp only [List.getElem?_toArray, List.getElem?_cons_zero, List.getElem?_cons_succ]; rfl) (by kernel_rfl) (by kernel_rfl) (by kernel_rfl) (fun _ _ _ h => h) (Or.inr ⟨by rfl, rfl⟩) (by assumption) ?_
          try simp only [Act.put, List.setIfInBounds_toArray, List.set_cons_zero, List.set_cons_succ]
          refine wpAnyH_take (i := 11) (oi := _) (v := undef) (by simp only [List.getElem?_toArray, List.getElem?_cons_zero, List.getElem?_cons_succ]; rfl) (by kernel_rfl) (by kernel_rfl) (by kernel_rfl) (fun _ _ _ h => h) (Or.inr ⟨by rfl, rfl⟩) (by assumption) ?_
          try simp only [Act.put, List.setIfInBounds_toArray, List.set_cons_zero, List.set_cons_succ]
          refine wpAnyH_take (i := 12) (oi := _) (v := undef) (by simp only [List.getElem?_toArray, List.getElem?_cons_zero, List.getElem?_cons_succ]; rfl) (by kernel_rfl) (by kernel_rfl) (by kernel_rfl) (fun _ _ _ h => h) (Or.inr ⟨by rfl, rfl⟩) (by assumption) ?_
          try simp only [Act.put, List.setIfInBounds_toArray, List.set_cons_zero, List.set_cons_succ]
          refine wpAnyH_take (i := 13) (oi := _) (v := undef) (by simp only [List.getElem?_toArray, List.getElem?_cons_zero, List.getElem?_cons_succ]; rfl) (by kernel_rfl) (by kernel_rfl) (by kernel_rfl) (fun _ _ _ h => h) (Or.inr ⟨by rfl, rfl⟩) (by assumption) ?_
          try simp only [Act.put, List.setIfInBounds_toArray, List.set_cons_zero, List.set_cons_succ]
          refine wpAnyH_take (i := 14) (oi := _) (v := ?_) (by simp only [List.getElem?_toArray, List.getElem?_cons_zero, List.getElem?_cons_succ]; rfl) (by kernel_rfl) (by kernel_rfl) (by kernel_rfl) (fun _ _ _ h => h) (Or.inl ⟨by rfl, ?_⟩) (by assumption) ?_
          rotate_left
          · intro w hSw
            try dsimp only at hSw
            go_simp
            all_goals (with_reducible rfl)
          try simp only [Act.put, List.setIfInBounds_toArray, List.set_cons_zero, List.set_cons_succ]
          refine wpAnyH_take (i := 15) (oi := _) (v := ?_) (by simp only [List.getElem?_toArray, List.getElem?_cons_zero, List.getElem?_cons_succ]; rfl) (by kernel_rfl) (by kernel_rfl) (by kernel_rfl) (fun _ _ _ h => h) (Or.inl ⟨by rfl, ?_⟩) (by assumption) ?_
          rotate_left
          · intro w hSw
            try dsimp only at hSw
            go_simp
            all_goals (with_reducible rfl)
          try simp only [Act.put, List.setIfInBounds_toArray, List.set_cons_zero, List.set_cons_succ]
          refine wpAnyH_done (by kernel_rfl) ?_ _
          refine NoPanic.normal ?_
          go_wp2_with fail
          go_ret
          exact ⟨rfl, (HF6.out.alloc _).drew⟩
        | some t =>
          have HREF := Lib.hid (fun wy => refOf_any t wy)
          obtain rfl := he5
          obtain ⟨rr, hrr⟩ : ∃ rr, t.ref = rr := ⟨_, rfl⟩
          have HRR := Lib.hid hrr
          rw [hrr] at HREF
          obtain ⟨d, x, hdx⟩ := t.shape
          rw [hdx] at HREF ⊢
          clear hrr hdx
          go_wp2_with fail
          with_reducible refine (HP9.out _ HF5.out).mono ?_
          rintro e w6 ⟨hf6, he6⟩
          have he7 : e = .returned (.tuple #[.agg rr.cells, .bool true]) := by rw [← HRR.out]; exact he6
          clear he6
          obtain ⟨rk, rt, ry, rl⟩ := rr
          unfold DT.cells at HREF he7
          dsimp only at HREF he7
          obtain rfl := he7
          have HF6 := Lib.hid ((HF2.out.trans' HF5.out).trans' hf6)
          have HEQ := eq_ref rk rt ry rl
          clear hf6
          go_wp2_with fail
          have hn7 := Blk.new w6 41 #[.int .i64 rk, .string rt, .string ry, .string rl]
          have HF7 := Lib.hid (HF6.out.alloc (.cells #[.int .i64 rk, .string rt, .string ry, .string rl] 41))
          generalize w6.alloc (.cells #[.int .i64 rk, .string rt, .string ry, .string rl] 41) = w7 at *
          have HC7 := Lib.hid (fun (w' : World) (hf : Fr (fun _ => False) w7 w') => (⟨(hn7.fr hf (fun h => h)).cell 0, (hn7.fr hf (fun h => h)).cell 1, (hn7.fr hf (fun h => h)).cell 2, (hn7.fr hf (fun h => h)).cell 3⟩ : w'.cell? ⟨w6.heap.size, 0, none⟩ = some (.int .i64 rk) ∧ w'.cell? ⟨w6.heap.size, 1, none⟩ = some (.string rt) ∧ w'.cell? ⟨w6.heap.size, 2, none⟩ = some (.string ry) ∧ w'.cell? ⟨w6.heap.size, 3, none⟩ = some (.string rl)))
          clear hn7
          refine wp_region_noPanic ?_
          refine wp_region_held_drew (S := (fun w' => w'.cell? ⟨w6.heap.size, 0, none⟩ = some (.int .i64 rk) ∧ w'.cell? ⟨w6.heap.size, 1, none⟩ = some (.string rt) ∧ w'.cell? ⟨w6.heap.size, 2, none⟩ = some (.string ry) ∧ w'.cell? ⟨w6.heap.size, 3, none⟩ = some (.string rl))) (by kernel_rfl) ?_ (fun hHeld => ?_)
          · exact HC7.out _ (Fr.refl (fun _ => False) w7).drew
          refine wpAnyH_take (i := 0) (oi := _) (v := ?_) (by simp only [List.getElem?_toArray, List.getElem?_cons_zero]; rfl) (by kernel_rfl) (by kernel_rfl) (by kernel_rfl) (fun _ _ _ h => h) (Or.inl ⟨by rfl, ?_⟩) (by assumption) ?_
          rotate_left
          · intro w hSw
            try dsimp only at hSw
            go_simp
            all_goals (with_reducible rfl)
          try simp only [Act.put, List.setIfInBounds_toArray, List.set_cons_zero, List.set_cons_succ]
          refine wpAnyH_take (i := 1) (oi := _) (v := ?_) (by simp only [List.getElem?_toArray, List.getElem?_cons_zero, List.getElem?_cons_succ]; rfl) (by kernel_rfl) (by kernel_rfl) (by kernel_rfl) (fun _ _ _ h => h) (Or.inl ⟨by rfl, ?_⟩) (by assumption) ?_
          rotate_left
          · intro w hSw
            try dsimp only at hSw
            go_simp
            all_goals (with_reducible rfl)
          try simp only [Act.put, List.setIfInBounds_toArray, List.set_cons_zero, List.set_cons_succ]
          refine wpAnyH_take (i := 2) (oi := _) (v := ?_) (by simp only [List.getElem?_toArray, List.getElem?_cons_zero, List.getElem?_cons_succ]; rfl) (by kernel_rfl) (by kernel_rfl) (by kernel_rfl) (fun _ _ _ h => h) (Or.inl ⟨by rfl, ?_⟩) (by assumption) ?_
          rotate_left
          · intro w hSw
            try dsimp only at hSw
            go_simp
            all_goals (with_reducible rfl)
          try simp only [Act.put, List.setIfInBounds_toArray, List.set_cons_zero, List.set_cons_succ]
          refine wpAnyH_take (i := 3) (oi := _) (v := undef) (by simp only [List.getElem?_toArray, List.getElem?_cons_zero, List.getElem?_cons_succ]; rfl) (by kernel_rfl) (by kernel_rfl) (by kernel_rfl) (fun _ _ _ h => h) (Or.inr ⟨by rfl, rfl⟩) (by assumption) ?_
          try simp only [Act.put, List.setIfInBounds_toArray, List.set_cons_zero, List.set_cons_succ]
          refine wpAnyH_take (i := 4) (oi := _) (v := undef) (by simp only [List.getElem?_toArray, List.getElem?_cons_zero, List.getElem?_cons_succ]; rfl) (by kernel_rfl) (by kernel_rfl) (by kernel_rfl) (fun _ _ _ h => h) (Or.inr ⟨by rfl, rfl⟩) (by assumption) ?_
          try simp only [Act.put, List.setIfInBounds_toArray, List.set_cons_zero, List.set_cons_succ]
          refine wpAnyH_take (i := 5) (oi := _) (v := ?_) (by simp only [List.getElem?_toArray, List.getElem?_cons_zero, List.getElem?_cons_succ]; rfl) (by kernel_rfl) (by kernel_rfl) (by kernel_rfl) (fun _ _ _ h => h) (Or.inl ⟨by rfl, ?_⟩) (by assumption) ?_
          rotate_left
          · intro w hSw
            try dsimp only at hSw
            go_simp
            all_goals (with_reducible rfl)
          try simp only [Act.put, List.setIfInBounds_toArray, List.set_cons_zero, List.set_cons_succ]
          refine wpAnyH_take (i := 6) (oi := _) (v := ?_) (by simp only [List.getElem?_toArray, List.getElem?_cons_zero, List.getElem?_cons_succ]; rfl) (by kernel_rfl) (by kernel_rfl) (by kernel_rfl) (fun _ _ _ h => h) (Or.inl ⟨by rfl, ?_⟩) (by assumption) ?_
          rotate_left
          · intro w hSw
            try dsimp only at hSw
            go_simp
            all_goals (with_reducible rfl)
          try simp only [Act.put, List.setIfInBounds_toArray, List.set_cons_zero, List.set_cons_succ]
          refine wpAnyH_take (i := 7) (oi := _) (v := ?_) (by simp only [List.getElem?_toArray, List.getElem?_cons_zero, List.getElem?_cons_succ]; rfl) (by kernel_rfl) (by kernel_rfl) (by kernel_rfl) (fun _ _ _ h => h) (Or.inl ⟨by rfl, ?_⟩) (by assumption) ?_
          rotate_left
          · intro w hSw
            try dsimp only at hSw
            go_simp
            all_goals (with_reducible rfl)
          try simp only [Act.put, List.setIfInBounds_toArray, List.set_cons_zero, List.set_cons_succ]
          refine wpAnyH_take (i := 8) (oi := _) (v := ?_) (by simp only [List.getElem?_toArray, List.getElem?_cons_zero, List.getElem?_cons_succ]; rfl) (by kernel_rfl) (by kernel_rfl) (by kernel_rfl) (fun _ _ _ h => h) (Or.inl ⟨by rfl, ?_⟩) (by assumption) ?_
          rotate_left
          · intro w hSw
            try dsimp only at hSw
            go_simp
            all_goals (with_reducible rfl)
          try simp only [Act.put, List.setIfInBounds_toArray, List.set_cons_zero, List.set_cons_succ]
          refine wpAnyH_take (i := 9) (oi := _) (v := ?_) (by simp only [List.getElem?_toArray, List.getElem?_cons_zero, List.getElem?_cons_succ]; rfl) (by kernel_rfl) (by kernel_rfl) (by kernel_rfl) (fun _ _ _ h => h) (Or.inl ⟨by rfl, ?_⟩) (by assumption) ?_
          rotate_left
          · intro w hSw
            try dsimp only at hSw
            go_simp
            all_goals (with_reducible rfl)
          try simp only [Act.put, List.setIfInBounds_toArray, List.set_cons_zero, List.set_cons_succ]
          refine wpAnyH_take (i := 11) (oi := _) (v := ?_) (by simp only [List.getElem?_toArray, List.getElem?_cons_zero, List.getElem?_cons_succ]; rfl) (by kernel_rfl) (by kernel_rfl) (by kernel_rfl) (fun _ _ _ h => h) (Or.inl ⟨by rfl, ?_⟩) (by assumption) ?_
          rotate_left
          · intro w hSw
            try dsimp only at hSw
            go_simp
            all_goals (with_reducible rfl)
          try simp only [Act.put, List.setIfInBounds_toArray, List.set_cons_zero, List.set_cons_succ]
          refine wpAnyH_ready (rs := [10]) (by kernel_rfl) (by simp) ?_
          refine AllReadyH.cons (o := _) (by simp only [List.getElem?_toArray, List.getElem?_cons_zero, List.getElem?_cons_succ]; rfl) (fun K hK => ?_) ?_
          · skip
            go_simp
            go_at_call 10
            refine (HREF.out _).mono ?_
            rintro e w8 ⟨rfl, hf8⟩
            have F8 : Fr (fun _ => False) w7 w8 := ((Fr.refl (fun _ => False) w7).drew).trans' hf8
            refine hK.out _ _ ?_ (fun hHeld => ?_)
            · try dsimp only
              exact HC7.out _ F8
            clear hK K
            try simp only [Act.put, List.setIfInBounds_toArray, List.set_cons_zero, List.set_cons_succ]
            refine wpAnyH_take (i := 12) (oi := _) (v := ?_) (by simp only [List.getElem?_toArray, List.getElem?_cons_zero, List.getElem?_cons_succ]; rfl) (by kernel_rfl) (by kernel_rfl) (by kernel_rfl) (fun _ _ _ h => h) (Or.inl ⟨by rfl, ?_⟩) (by assumption) ?_
            rotate_left
            · intro w hSw
              try dsimp only at hSw
              go_simp
              all_goals (with_reducible rfl)
            try simp only [Act.put, List.setIfInBounds_toArray, List.set_cons_zero, List.set_cons_succ]
            refine wpAnyH_take (i := 13) (oi := _) (v := ?_) (by simp only [List.getElem?_toArray, List.getElem?_cons_zero, List.getElem?_cons_succ]; rfl) (by kernel_rfl) (by kernel_rfl) (by kernel_rfl) (fun _ _ _ h => h) (Or.inl ⟨by rfl, ?_⟩) (by assumption) ?_
            rotate_left
            · intro w hSw
              try dsimp only at hSw
              go_simp
              all_goals (with_reducible rfl)
            try simp only [Act.put, List.setIfInBounds_toArray, List.set_cons_zero, List.set_cons_succ]
            refine wpAnyH_take (i := 14) (oi := _) (v := ?_) (by simp only [List.getElem?_toArray, List.getElem?_cons_zero, List.getElem?_cons_succ]; rfl) (by kernel_rfl) (by kernel_rfl) (by kernel_rfl) (fun _ _ _ h => h) (Or.inl ⟨by rfl, ?_⟩) (by assumption) ?_
            rotate_left
            · intro w hSw
              try dsimp only at hSw
              go_simp
              all_goals (with_reducible rfl)
            try simp only [Act.put, List.setIfInBounds_toArray, List.set_cons_zero, List.set_cons_succ]
            refine wpAnyH_take (i := 15) (oi := _) (v := ?_) (by simp only [List.getElem?_toArray, List.getElem?_cons_zero, List.getElem?_cons_succ]; rfl) (by kernel_rfl) (by kernel_rfl) (by kernel_rfl) (fun _ _ _ h => h) (Or.inl ⟨by rfl, ?_⟩) (by assumption) ?_
            rotate_left
            · intro w hSw
              try dsimp only at hSw
              go_simp
              all_goals (with_reducible rfl)
            try simp only [Act.put, List.setIfInBounds_toArray, List.set_cons_zero, List.set_cons_succ]
            refine wpAnyH_done (by kernel_rfl) ?_ _
            refine NoPanic.normal ?_
            go_wp2_with fail
            go_ret
            exact ⟨rfl, (HF7.out.trans' F8)⟩
          exact AllReadyH.nil
      | false =>
        obtain rfl : v' = v := by rw [← HV.out, if_neg (by decide)]
        by_cases hk0 : k = 0
        · subst hk0
          have hz : ((((0 : Nat) : Int)) == 0) = true := rfl
          have h8 : ¬ 3 < p1 % 8 := by simpa using hstar
          go_wp2_with fail
          have HFX := Lib.hid (HFC.out)
          have HBX9 : Hid (Blk _ (w2.heap.size + 1) 35 #[.string ⟨#[]⟩, .string f, .string v']) := Lib.hid (HB9.out)
          with_reducible refine (HP8.out _ HFX.out).mono ?_
          rintro e w5 ⟨hf5, he5⟩
          have b9 := HBX9.out.fr hf5 (fun h => h)
          have u0 := b9.cell 0
          have u1 := b9.cell 1
          have u2 := b9.cell 2
          simp only [List.getElem?_toArray, List.getElem?_cons_zero, List.getElem?_cons_succ] at u0 u1 u2
          have HF5 := Lib.hid (HFX.out.trans' hf5)
          clear hf5 b9
          cases o with
          | none =>
            obtain rfl := he5
            go_wp2_with fail
            with_reducible refine (HP9.out _ HF5.out).mono ?_
            rintro e w6 ⟨hf6, he6⟩
            obtain rfl := (show e = .returned (.tuple #[.agg #[.int .i64 0, .string ⟨#[]⟩, .string ⟨#[]⟩, .string ⟨#[]⟩], .bool false]) from he6)
            have HF6 := Lib.hid ((HF2.out.trans' HF5.out).trans' hf6)
            clear hf6
            go_wp2_with fail
            refine wp_region_noPanic ?_
            refine wp_region_held_drew (S := (fun _ => True)) (by kernel_rfl) ?_ (fun hHeld => ?_)
            · exact trivial
            refine wpAnyH_take (i := 0) (oi := _) (v := ?_) (by simp only [List.getElem?_toArray, List.getElem?_cons_zero]; rfl) (by kernel_rfl) (by kernel_rfl) (by kernel_rfl) (fun _ _ _ h => h) (Or.inl ⟨by rfl, ?_⟩) (by assumption) ?_
            rotate_left
            · intro w hSw
              try dsimp only at hSw
              go_simp
              all_goals (with_reducible rfl)
            try simp only [Act.put, List.setIfInBounds_toArray, List.set_cons_zero, List.set_cons_succ]
            refine wpAnyH_take (i := 1) (oi := _) (v := ?_) (by simp only [List.getElem?_toArray, List.getElem?_cons_zero, List.getElem?_cons_succ]; rfl) (by kernel_rfl) (by kernel_rfl) (by kernel_rfl) (fun _ _ _ h => h) (Or.inl ⟨by rfl, ?_⟩) (by assumption) ?_
            rotate_left
            · intro w hSw
              try dsimp only at hSw
              go_simp
              all_goals (with_reducible rfl)
            try simp only [Act.put, List.setIfInBounds_toArray, List.set_cons_zero, List.set_cons_succ]
            refine wpAnyH_take (i := 2) (oi := _) (v := ?_) (by simp only [List.getElem?_toArray, List.getElem?_cons_zero, List.getElem?_cons_succ]; rfl) (by kernel_rfl) (by kernel_rfl) (by kernel_rfl) (fun _ _ _ h => h) (Or.inl ⟨by rfl, ?_⟩) (by assumption) ?_
            rotate_left
            · intro w hSw
              try dsimp only at hSw
              go_simp
              all_goals (with_reducible rfl)
            try simp only [Act.put, List.setIfInBounds_toArray, List.set_cons_zero, List.set_cons_succ]
            refine wpAnyH_take (i := 3) (oi := _) (v := ?_) (by simp only [List.getElem?_toArray, List.getElem?_cons_zero, List.getElem?_cons_succ]; rfl) (by kernel_rfl) (by kernel_rfl) (by kernel_rfl) (fun _ _ _ h => h) (Or.inl ⟨by rfl, ?_⟩) (by assumption) ?_
            rotate_left
            · intro w hSw
              try dsimp only at hSw
              go_simp
              all_goals (with_reducible rfl)
            try simp only [Act.put, List.setIfInBounds_toArray, List.set_cons_zero, List.set_cons_succ]
            refine wpAnyH_take (i := 4) (oi := _) (v := ?_) (by simp only [List.getElem?_toArray, List.getElem?_cons_zero, List.getElem?_cons_succ]; rfl) (by kernel_rfl) (by kernel_rfl) (by kernel_rfl) (fun _ _ _ h => h) (Or.inl ⟨by rfl, ?_⟩) (by assumption) ?_
            rotate_left
            · intro w hSw
              try dsimp only at hSw
              go_simp
              all_goals (with_reducible rfl)
            try simp only [Act.put, List.setIfInBounds_toArray, List.set_cons_zero, List.set_cons_succ]
            refine wpAnyH_take (i := 5) (oi := _) (v := ?_) (by simp only [List.getElem?_toArray, List.getElem?_cons_zero, List.getElem?_cons_succ]; rfl) (by kernel_rfl) (by kernel_rfl) (by kernel_rfl) (fun _ _ _ h => h) (Or.inl ⟨by rfl, ?_⟩) (by assumption) ?_
            rotate_left
            · intro w hSw
              try dsimp only at hSw
              go_simp
              all_goals (with_reducible rfl)
            try simp only [Act.put, List.setIfInBounds_toArray, List.set_cons_zero, List.set_cons_succ]
            refine wpAnyH_take (i := 6) (oi := _) (v := ?_) (by simp only [List.getElem?_toArray, List.getElem?_cons_zero, List.getElem?_cons_succ]; rfl) (by kernel_rfl) (by kernel_rfl) (by kernel_rfl) (fun _ _ _ h => h) (Or.inl ⟨by rfl, ?_⟩) (by assumption) ?_
            rotate_left
            · intro w hSw
              try dsimp only at hSw
              go_simp
              all_goals (with_reducible rfl)
            try simp only [Act.put, List.setIfInBounds_toArray, List.set_cons_zero, List.set_cons_succ]
            refine wpAnyH_take (i := 7) (oi := _) (v := undef) (by simp only [List.getElem?_toArray, List.getElem?_cons_zero, List.getElem?_cons_succ]; rfl) (by kernel_rfl) (by kernel_rfl) (by kernel_rfl) (fun _ _ _ h => h) (Or.inr ⟨by rfl, rfl⟩) (by assumption) ?_
            try simp only [Act.put, List.setIfInBounds_toArray, List.set_cons_zero, List.set_cons_succ]
            refine wpAnyH_take (i := 8) (oi := _) (v := undef) (by simp only [List.getElem?_toArray, List.getElem?_cons_zero, List.getElem?_cons_succ]; rfl) (by kernel_rfl) (by kernel_rfl) (by kernel_rfl) (fun _ _ _ h => h) (Or.inr ⟨by rfl, rfl⟩) (by assumption) ?_
            try simp only [Act.put, List.setIfInBounds_toArray, List.set_cons_zero, List.set_cons_succ]
            refine wpAnyH_take (i := 9) (oi := _) (v := undef) (by simp only [List.getElem?_toArray, List.getElem?_cons_zero, List.getElem?_cons_succ]; rfl) (by kernel_rfl) (by kernel_rfl) (by kernel_rfl) (fun _ _ _ h => h) (Or.inr ⟨by rfl, rfl⟩) (by assumption) ?_
            try simp only [Act.put, List.setIfInBounds_toArray, List.set_cons_zero, List.set_cons_succ]
            refine wpAnyH_take (i := 10) (oi := _) (v := undef) (by simp only [List.getElem?_toArray, List.getElem?_cons_zero, List.getElem?_cons_succ]; rfl) (by kernel_rfl) (by kernel_rfl) (by kernel_rfl) (fun _ _ _ h => h) (Or.inr ⟨by rfl, rfl⟩) (by assumption) ?_
            try simp only [Act.put, List.setIfInBounds_toArray, List.set_cons_zero, List.set_cons_succ]
            refine wpAnyH_take (i := 11) (oi := _) (v := undef) (by simp only [List.getElem?_toArray, List.getElem?_cons_zero, List.getElem?_cons_succ]; rfl) (by kernel_rfl) (by kernel_rfl) (by kernel_rfl) (fun _ _ _ h => h) (Or.inr ⟨by rfl, rfl⟩) (by assumption) ?_
            try simp only [Act.put, List.setIfInBounds_toArray, List.set_cons_zero, List.set_cons_succ]
            refine wpAnyH_take (i := 12) (oi := _) (v := undef) (by simp only [List.getElem?_toArray, List.getElem?_cons_zero, List.getElem?_cons_succ]; rfl) (by kernel_rfl) (by kernel_rfl) (by kernel_rfl) (fun _ _ _ h => h) (Or.inr ⟨by rfl, rfl⟩) (by assumption) ?_
            try simp only [Act.put, List.setIfInBounds_toArray, List.set_cons_zero, List.set_cons_succ]
            refine wpAnyH_take (i := 13) (oi := _) (v := undef) (by simp only [List.getElem?_toArray, List.getElem?_cons_zero, List.getElem?_cons_succ]; rfl) (by kernel_rfl) (by kernel_rfl) (by kernel_rfl) (fun _ _ _ h => h) (Or.inr ⟨by rfl, rfl⟩) (by assumption) ?_
            try simp only [Act.put, List.setIfInBounds_toArray, List.set_cons_zero, List.set_cons_succ]
            refine wpAnyH_take (i := 14) (oi := _) (v := ?_) (by simp only [List.getElem?_toArray, List.getElem?_cons_zero, List.getElem?_cons_succ]; rfl) (by kernel_rfl) (by kernel_rfl) (by kernel_rfl) (fun _ _ _ h => h) (Or.inl ⟨by rfl, ?_⟩) (by assumption) ?_
            rotate_left
            · intro w hSw
              try dsimp only at hSw
              go_simp
              all_goals (with_reducible rfl)
            try simp only [Act.put, List.setIfInBounds_toArray, List.set_cons_zero, List.set_cons_succ]
            refine wpAnyH_take (i := 15) (oi := _) (v := ?_) (by simp only [List.getElem?_toArray, List.getElem?_cons_zero, List.getElem?_cons_succ]; rfl) (by kernel_rfl) (by kernel_rfl) (by kernel_rfl) (fun _ _ _ h => h) (Or.inl ⟨by rfl, ?_⟩) (by assumption) ?_
            rotate_left
            · intro w hSw
              try dsimp only at hSw
              go_simp
              all_goals (with_reducible rfl)
            try simp only [Act.put, List.setIfInBounds_toArray, List.set_cons_zero, List.set_cons_succ]
            refine wpAnyH_done (by kernel_rfl) ?_ _
            refine NoPanic.normal ?_
            go_wp2_with fail
            go_ret
            exact ⟨rfl, (HF6.out.alloc _).drew⟩
          | some t =>
            have HREF := Lib.hid (fun wy => refOf_any t wy)
            obtain rfl := he5
            obtain ⟨rr, hrr⟩ : ∃ rr, t.ref = rr := ⟨_, rfl⟩
            have HRR := Lib.hid hrr
            rw [hrr] at HREF
            obtain ⟨d, x, hdx⟩ := t.shape
            rw [hdx] at HREF ⊢
            clear hrr hdx
            go_wp2_with fail
            with_reducible refine (HP9.out _ HF5.out).mono ?_
            rintro e w6 ⟨hf6, he6⟩
            have he7 : e = .returned (.tuple #[.agg rr.cells, .bool true]) := by rw [← HRR.out]; exact he6
            clear he6
            obtain ⟨rk, rt, ry, rl⟩ := rr
            unfold DT.cells at HREF he7
            dsimp only at HREF he7
            obtain rfl := he7
            have HF6 := Lib.hid ((HF2.out.trans' HF5.out).trans' hf6)
            have HEQ := eq_ref rk rt ry rl
            clear hf6
            go_wp2_with fail
            have hn7 := Blk.new w6 41 #[.int .i64 rk, .string rt, .string ry, .string rl]
            have HF7 := Lib.hid (HF6.out.alloc (.cells #[.int .i64 rk, .string rt, .string ry, .string rl] 41))
            generalize w6.alloc (.cells #[.int .i64 rk, .string rt, .string ry, .string rl] 41) = w7 at *
            have HC7 := Lib.hid (fun (w' : World) (hf : Fr (fun _ => False) w7 w') => (⟨(hn7.fr hf (fun h => h)).cell 0, (hn7.fr hf (fun h => h)).cell 1, (hn7.fr hf (fun h => h)).cell 2, (hn7.fr hf (fun h => h)).cell 3⟩ : w'.cell? ⟨w6.heap.size, 0, none⟩ = some (.int .i64 rk) ∧ w'.cell? ⟨w6.heap.size, 1, none⟩ = some (.string rt) ∧ w'.cell? ⟨w6.heap.size, 2, none⟩ = some (.string ry) ∧ w'.cell? ⟨w6.heap.size, 3, none⟩ = some (.string rl)))
            clear hn7
            refine wp_region_noPanic ?_
            refine wp_region_held_drew (S := (fun w' => w'.cell? ⟨w6.heap.size, 0, none⟩ = some (.int .i64 rk) ∧ w'.cell? ⟨w6.heap.size, 1, none⟩ = some (.string rt) ∧ w'.cell? ⟨w6.heap.size, 2, none⟩ = some (.string ry) ∧ w'.cell? ⟨w6.heap.size, 3, none⟩ = some (.string rl))) (by kernel_rfl) ?_ (fun hHeld => ?_)
            · exact HC7.out _ (Fr.refl (fun _ => False) w7).drew
            refine wpAnyH_take (i := 0) (oi := _) (v := ?_) (by simp only [List.getElem?_toArray, List.getElem?_cons_zero]; rfl) (by kernel_rfl) (by kernel_rfl) (by kernel_rfl) (fun _ _ _ h => h) (Or.inl ⟨by rfl, ?_⟩) (by assumption) ?_
            rotate_left
            · intro w hSw
              try dsimp only at hSw
              go_simp
              all_goals (with_reducible rfl)
            try simp only [Act.put, List.setIfInBounds_toArray, List.set_cons_zero, List.set_cons_succ]
            refine wpAnyH_take (i := 1) (oi := _) (v := ?_) (by simp only [List.getElem?_toArray, List.getElem?_cons_zero, List.getElem?_cons_succ]; rfl) (by kernel_rfl) (by kernel_rfl) (by kernel_rfl) (fun _ _ _ h => h) (Or.inl ⟨by rfl, ?_⟩) (by assumption) ?_
            rotate_left
            · intro w hSw
              try dsimp only at hSw
              go_simp
              all_goals (with_reducible rfl)
            try simp only [Act.put, List.setIfInBounds_toArray, List.set_cons_zero, List.set_cons_succ]
            refine wpAnyH_take (i := 2) (oi := _) (v := ?_) (by simp only [List.getElem?_toArray, List.getElem?_cons_zero, List.getElem?_cons_succ]; rfl) (by kernel_rfl) (by kernel_rfl) (by kernel_rfl) (fun _ _ _ h => h) (Or.inl ⟨by rfl, ?_⟩) (by assumption) ?_
            rotate_left
            · intro w hSw
              try dsimp only at hSw
              go_simp
              all_goals (with_reducible rfl)
            try simp only [Act.put, List.setIfInBounds_toArray, List.set_cons_zero, List.set_cons_succ]
            refine wpAnyH_take (i := 3) (oi := _) (v := undef) (by simp only [List.getElem?_toArray, List.getElem?_cons_zero, List.getElem?_cons_succ]; rfl) (by kernel_rfl) (by kernel_rfl) (by kernel_rfl) (fun _ _ _ h => h) (Or.inr ⟨by rfl, rfl⟩) (by assumption) ?_
            try simp only [Act.put, List.setIfInBounds_toArray, List.set_cons_zero, List.set_cons_succ]
            refine wpAnyH_take (i := 4) (oi := _) (v := undef) (by simp only [List.getElem?_toArray, List.getElem?_cons_zero, List.getElem?_cons_succ]; rfl) (by kernel_rfl) (by kernel_rfl) (by kernel_rfl) (fun _ _ _ h => h) (Or.inr ⟨by rfl, rfl⟩) (by assumption) ?_
            try simp only [Act.put, List.setIfInBounds_toArray, List.set_cons_zero, List.set_cons_succ]
            refine wpAnyH_take (i := 5) (oi := _) (v := ?_) (by simp only [List.getElem?_toArray, List.getElem?_cons_zero, List.getElem?_cons_succ]; rfl) (by kernel_rfl) (by kernel_rfl) (by kernel_rfl) (fun _ _ _ h => h) (Or.inl ⟨by rfl, ?_⟩) (by assumption) ?_
            rotate_left
            · intro w hSw
              try dsimp only at hSw
              go_simp
              all_goals (with_reducible rfl)
            try simp only [Act.put, List.setIfInBounds_toArray, List.set_cons_zero, List.set_cons_succ]
            refine wpAnyH_take (i := 6) (oi := _) (v := ?_) (by simp only [List.getElem?_toArray, List.getElem?_cons_zero, List.getElem?_cons_succ]; rfl) (by kernel_rfl) (by kernel_rfl) (by kernel_rfl) (fun _ _ _ h => h) (Or.inl ⟨by rfl, ?_⟩) (by assumption) ?_
            rotate_left
            · intro w hSw
              try dsimp only at hSw
              go_simp
              all_goals (with_reducible rfl)
            try simp only [Act.put, List.setIfInBounds_toArray, List.set_cons_zero, List.set_cons_succ]
            refine wpAnyH_take (i := 7) (oi := _) (v := ?_) (by simp only [List.getElem?_toArray, List.getElem?_cons_zero, List.getElem?_cons_succ]; rfl) (by kernel_rfl) (by kernel_rfl) (by kernel_rfl) (fun _ _ _ h => h) (Or.inl ⟨by rfl, ?_⟩) (by assumption) ?_
            rotate_left
            · intro w hSw
              try dsimp only at hSw
              go_simp
              all_goals (with_reducible rfl)
            try simp only [Act.put, List.setIfInBounds_toArray, List.set_cons_zero, List.set_cons_succ]
            refine wpAnyH_take (i := 8) (oi := _) (v := ?_) (by simp only [List.getElem?_toArray, List.getElem?_cons_zero, List.getElem?_cons_succ]; rfl) (by kernel_rfl) (by kernel_rfl) (by kernel_rfl) (fun _ _ _ h => h) (Or.inl ⟨by rfl, ?_⟩) (by assumption) ?_
            rotate_left
            · intro w hSw
              try dsimp only at hSw
              go_simp
              all_goals (with_reducible rfl)
            try simp only [Act.put, List.setIfInBounds_toArray, List.set_cons_zero, List.set_cons_succ]
            refine wpAnyH_take (i := 9) (oi := _) (v := ?_) (by simp only [List.getElem?_toArray, List.getElem?_cons_zero, List.getElem?_cons_succ]; rfl) (by kernel_rfl) (by kernel_rfl) (by kernel_rfl) (fun _ _ _ h => h) (Or.inl ⟨by rfl, ?_⟩) (by assumption) ?_
            rotate_left
            · intro w hSw
              try dsimp only at hSw
              go_simp
              all_goals (with_reducible rfl)
            try simp only [Act.put, List.setIfInBounds_toArray, List.set_cons_zero, List.set_cons_succ]
            refine wpAnyH_take (i := 11) (oi := _) (v := ?_) (by simp only [List.getElem?_toArray, List.getElem?_cons_zero, List.getElem?_cons_succ]; rfl) (by kernel_rfl) (by kernel_rfl) (by kernel_rfl) (fun _ _ _ h => h) (Or.inl ⟨by rfl, ?_⟩) (by assumption) ?_
            rotate_left
            · intro w hSw
              try dsimp only at hSw
              go_simp
              all_goals (with_reducible rfl)
            try simp only [Act.put, List.setIfInBounds_toArray, List.set_cons_zero, List.set_cons_succ]
            refine wpAnyH_ready (rs := [10]) (by kernel_rfl) (by simp) ?_
            refine AllReadyH.cons (o := _) (by simp only [List.getElem?_toArray, List.getElem?_cons_zero, List.getElem?_cons_succ]; rfl) (fun K hK => ?_) ?_
            · skip
              go_simp
              go_at_call 10
              refine (HREF.out _).mono ?_
              rintro e w8 ⟨rfl, hf8⟩
              have F8 : Fr (fun _ => False) w7 w8 := ((Fr.refl (fun _ => False) w7).drew).trans' hf8
              refine hK.out _ _ ?_ (fun hHeld => ?_)
              · try dsimp only
                exact HC7.out _ F8
              clear hK K
              try simp only [Act.put, List.setIfInBounds_toArray, List.set_cons_zero, List.set_cons_succ]
              refine wpAnyH_take (i := 12) (oi := _) (v := ?_) (by simp only [List.getElem?_toArray, List.getElem?_cons_zero, List.getElem?_cons_succ]; rfl) (by kernel_rfl) (by kernel_rfl) (by kernel_rfl) (fun _ _ _ h => h) (Or.inl ⟨by rfl, ?_⟩) (by assumption) ?_
              rotate_left
              · intro w hSw
                try dsimp only at hSw
                go_simp
                all_goals (with_reducible rfl)
              try simp only [Act.put, List.setIfInBounds_toArray, List.set_cons_zero, List.set_cons_succ]
              refine wpAnyH_take (i := 13) (oi := _) (v := ?_) (by simp only [List.getElem?_toArray, List.getElem?_cons_zero, List.getElem?_cons_succ]; rfl) (by kernel_rfl) (by kernel_rfl) (by kernel_rfl) (fun _ _ _ h => h) (Or.inl ⟨by rfl, ?_⟩) (by assumption) ?_
              rotate_left
              · intro w hSw
                try dsimp only at hSw
                go_simp
                all_goals (with_reducible rfl)
              try simp only [Act.put, List.setIfInBounds_toArray, List.set_cons_zero, List.set_cons_succ]
              refine wpAnyH_take (i := 14) (oi := _) (v := ?_) (by simp only [List.getElem?_toArray, List.getElem?_cons_zero, List.getElem?_cons_succ]; rfl) (by kernel_rfl) (by kernel_rfl) (by kernel_rfl) (fun _ _ _ h => h) (Or.inl ⟨by rfl, ?_⟩) (by assumption) ?_
              rotate_left
              · intro w hSw
                try dsimp only at hSw
                go_simp
                all_goals (with_reducible rfl)
              try simp only [Act.put, List.setIfInBounds_toArray, List.set_cons_zero, List.set_cons_succ]
              refine wpAnyH_take (i := 15) (oi := _) (v := ?_) (by simp only [List.getElem?_toArray, List.getElem?_cons_zero, List.getElem?_cons_succ]; rfl) (by kernel_rfl) (by kernel_rfl) (by kernel_rfl) (fun _ _ _ h => h) (Or.inl ⟨by rfl, ?_⟩) (by assumption) ?_
              rotate_left
              · intro w hSw
                try dsimp only at hSw
                go_simp
                all_goals (with_reducible rfl)
              try simp only [Act.put, List.setIfInBounds_toArray, List.set_cons_zero, List.set_cons_succ]
              refine wpAnyH_done (by kernel_rfl) ?_ _
              refine NoPanic.normal ?_
              go_wp2_with fail
              go_ret
              exact ⟨rfl, (HF7.out.trans' F8)⟩
            exact AllReadyH.nil
        · have hz : ((k : Int) == 0) = false := by simp [hk0]
          go_wp2_with fail
          have HFX := Lib.hid (HFC.out)
          have HBX9 : Hid (Blk _ (w2.heap.size + 1) 35 #[.string ⟨#[]⟩, .string f, .string v']) := Lib.hid (HB9.out)
          with_reducible refine (HP8.out _ HFX.out).mono ?_
          rintro e w5 ⟨hf5, he5⟩
          have b9 := HBX9.out.fr hf5 (fun h => h)
          have u0 := b9.cell 0
          have u1 := b9.cell 1
          have u2 := b9.cell 2
          simp only [List.getElem?_toArray, List.getElem?_cons_zero, List.getElem?_cons_succ] at u0 u1 u2
          have HF5 := Lib.hid (HFX.out.trans' hf5)
          clear hf5 b9
          cases o with
          | none =>
            obtain rfl := he5
            go_wp2_with fail
            with_reducible refine (HP9.out _ HF5.out).mono ?_
            rintro e w6 ⟨hf6, he6⟩
            obtain rfl := (show e = .returned (.tuple #[.agg #[.int .i64 0, .string ⟨#[]⟩, .string ⟨#[]⟩, .string ⟨#[]⟩], .bool false]) from he6)
            have HF6 := Lib.hid ((HF2.out.trans' HF5.out).trans' hf6)
            clear hf6
            go_wp2_with fail
            refine wp_region_noPanic ?_
            refine wp_region_held_drew (S := (fun _ => True)) (by kernel_rfl) ?_ (fun hHeld => ?_)
            · exact trivial
            refine wpAnyH_take (i := 0) (oi := _) (v := ?_) (by simp only [List.getElem?_toArray, List.getElem?_cons_zero]; rfl) (by kernel_rfl) (by kernel_rfl) (by kernel_rfl) (fun _ _ _ h => h) (Or.inl ⟨by rfl, ?_⟩) (by assumption) ?_
            rotate_left
            · intro w hSw
              try dsimp only at hSw
              go_simp
              all_goals (with_reducible rfl)
            try simp only [Act.put, List.setIfInBounds_toArray, List.set_cons_zero, List.set_cons_succ]
            refine wpAnyH_take (i := 1) (oi := _) (v := ?_) (by simp only [List.getElem?_toArray, List.getElem?_cons_zero, List.getElem?_cons_succ]; rfl) (by kernel_rfl) (by kernel_rfl) (by kernel_rfl) (fun _ _ _ h => h) (Or.inl ⟨by rfl, ?_⟩) (by assumption) ?_
            rotate_left
            · intro w hSw
              try dsimp only at hSw
              go_simp
              all_goals (with_reducible rfl)
            try simp only [Act.put, List.setIfInBounds_toArray, List.set_cons_zero, List.set_cons_succ]
            refine wpAnyH_take (i := 2) (oi := _) (v := ?_) (by simp only [List.getElem?_toArray, List.getElem?_cons_zero, List.getElem?_cons_succ]; rfl) (by kernel_rfl) (by kernel_rfl) (by kernel_rfl) (fun _ _ _ h => h) (Or.inl ⟨by rfl, ?_⟩) (by assumption) ?_
            rotate_left
            · intro w hSw
              try dsimp only at hSw
              go_simp
              all_goals (with_reducible rfl)
            try simp only [Act.put, List.setIfInBounds_toArray, List.set_cons_zero, List.set_cons_succ]
            refine wpAnyH_take (i := 3) (oi := _) (v := ?_) (by simp only [List.getElem?_toArray, List.getElem?_cons_zero, List.getElem?_cons_succ]; rfl) (by kernel_rfl) (by kernel_rfl) (by kernel_rfl) (fun _ _ _ h => h) (Or.inl ⟨by rfl, ?_⟩) (by assumption) ?_
            rotate_left
            · intro w hSw
              try dsimp only at hSw
              go_simp
              all_goals (with_reducible rfl)
            try simp only [Act.put, List.setIfInBounds_toArray, List.set_cons_zero, List.set_cons_succ]
            refine wpAnyH_take (i := 4) (oi := _) (v := ?_) (by simp only [List.getElem?_toArray, List.getElem?_cons_zero, List.getElem?_cons_succ]; rfl) (by kernel_rfl) (by kernel_rfl) (by kernel_rfl) (fun _ _ _ h => h) (Or.inl ⟨by rfl, ?_⟩) (by assumption) ?_
            rotate_left
            · intro w hSw
              try dsimp only at hSw
              go_simp
              all_goals (with_reducible rfl)
            try simp only [Act.put, List.setIfInBounds_toArray, List.set_cons_zero, List.set_cons_succ]
            refine wpAnyH_take (i := 5) (oi := _) (v := ?_) (by simp only [List.getElem?_toArray, List.getElem?_cons_zero, List.getElem?_cons_succ]; rfl) (by kernel_rfl) (by kernel_rfl) (by kernel_rfl) (fun _ _ _ h => h) (Or.inl ⟨by rfl, ?_⟩) (by assumption) ?_
            rotate_left
            · intro w hSw
              try dsimp only at hSw
              go_simp
              all_goals (with_reducible rfl)
            try simp only [Act.put, List.setIfInBounds_toArray, List.set_cons_zero, List.set_cons_succ]
            refine wpAnyH_take (i := 6) (oi := _) (v := ?_) (by simp only [List.getElem?_toArray, List.getElem?_cons_zero, List.getElem?_cons_succ]; rfl) (by kernel_rfl) (by kernel_rfl) (by kernel_rfl) (fun _ _ _ h => h) (Or.inl ⟨by rfl, ?_⟩) (by assumption) ?_
            rotate_left
            · intro w hSw
              try dsimp only at hSw
              go_simp
              all_goals (with_reducible rfl)
            try simp only [Act.put, List.setIfInBounds_toArray, List.set_cons_zero, List.set_cons_succ]
            refine wpAnyH_take (i := 7) (oi := _) (v := undef) (by simp only [List.getElem?_toArray, List.getElem?_cons_zero, List.getElem?_cons_succ]; rfl) (by kernel_rfl) (by kernel_rfl) (by kernel_rfl) (fun _ _ _ h => h) (Or.inr ⟨by rfl, rfl⟩) (by assumption) ?_
            try simp only [Act.put, List.setIfInBounds_toArray, List.set_cons_zero, List.set_cons_succ]
            refine wpAnyH_take (i := 8) (oi := _) (v := undef) (by simp only [List.getElem?_toArray, List.getElem?_cons_zero, List.getElem?_cons_succ]; rfl) (by kernel_rfl) (by kernel_rfl) (by kernel_rfl) (fun _ _ _ h => h) (Or.inr ⟨by rfl, rfl⟩) (by assumption) ?_
            try simp only [Act.put, List.setIfInBounds_toArray, List.set_cons_zero, List.set_cons_succ]
            refine wpAnyH_take (i := 9) (oi := _) (v := undef) (by simp only [List.getElem?_toArray, List.getElem?_cons_zero, List.getElem?_cons_succ]; rfl) (by kernel_rfl) (by kernel_rfl) (by kernel_rfl) (fun _ _ _ h => h) (Or.inr ⟨by rfl, rfl⟩) (by assumption) ?_
            try simp only [Act.put, List.setIfInBounds_toArray, List.set_cons_zero, List.set_cons_succ]
            refine wpAnyH_take (i := 10) (oi := _) (v := undef) (by simp only [List.getElem?_toArray, List.getElem?_cons_zero, List.getElem?_cons_succ]; rfl) (by kernel_rfl) (by kernel_rfl) (by kernel_rfl) (fun _ _ _ h => h) (Or.inr ⟨by rfl, rfl⟩) (by assumption) ?_
            try simp only [Act.put, List.setIfInBounds_toArray, List.set_cons_zero, List.set_cons_succ]
            refine wpAnyH_take (i := 11) (oi := _) (v := undef) (by simp only [List.getElem?_toArray, List.getElem?_cons_zero, List.getElem?_cons_succ]; rfl) (by kernel_rfl) (by kernel_rfl) (by kernel_rfl) (fun _ _ _ h => h) (Or.inr ⟨by rfl, rfl⟩) (by assumption) ?_
            try simp only [Act.put, List.setIfInBounds_toArray, List.set_cons_zero, List.set_cons_succ]
            refine wpAnyH_take (i := 12) (oi := _) (v := undef) (by simp only [List.getElem?_toArray, List.getElem?_cons_zero, List.getElem?_cons_succ]; rfl) (by kernel_rfl) (by kernel_rfl) (by kernel_rfl) (fun _ _ _ h => h) (Or.inr ⟨by rfl, rfl⟩) (by assumption) ?_
            try simp only [Act.put, List.setIfInBounds_toArray, List.set_cons_zero, List.set_cons_succ]
            refine wpAnyH_take (i := 13) (oi := _) (v := undef) (by simp only [List.getElem?_toArray, List.getElem?_cons_zero, List.getElem?_cons_succ]; rfl) (by kernel_rfl) (by kernel_rfl) (by kernel_rfl) (fun _ _ _ h => h) (Or.inr ⟨by rfl, rfl⟩) (by assumption) ?_
            try simp only [Act.put, List.setIfInBounds_toArray, List.set_cons_zero, List.set_cons_succ]
            refine wpAnyH_take (i := 14) (oi := _) (v := ?_) (by simp only [List.getElem?_toArray, List.getElem?_cons_zero, List.getElem?_cons_succ]; rfl) (by kernel_rfl) (by kernel_rfl) (by kernel_rfl) (fun _ _ _ h => h) (Or.inl ⟨by rfl, ?_⟩) (by assumption) ?_
            rotate_left
            · intro w hSw
              try dsimp only at hSw
              go_simp
              all_goals (with_reducible rfl)
            try simp only [Act.put, List.setIfInBounds_toArray, List.set_cons_zero, List.set_cons_succ]
            refine wpAnyH_take (i := 15) (oi := _) (v := ?_) (by simp only [List.getElem?_toArray, List.getElem?_cons_zero, List.getElem?_cons_succ]; rfl) (by kernel_rfl) (by kernel_rfl) (by kernel_rfl) (fun _ _ _ h => h) (Or.inl ⟨by rfl, ?_⟩) (by assumption) ?_
            rotate_left
            · intro w hSw
              try dsimp only at hSw
              go_simp
              all_goals (with_reducible rfl)
            try simp only [Act.put, List.setIfInBounds_toArray, List.set_cons_zero, List.set_cons_succ]
            refine wpAnyH_done (by kernel_rfl) ?_ _
            refine NoPanic.normal ?_
            go_wp2_with fail
            go_ret
            exact ⟨rfl, (HF6.out.alloc _).drew⟩
          | some t =>
            have HREF := Lib.hid (fun wy => refOf_any t wy)
            obtain rfl := he5
            obtain ⟨rr, hrr⟩ : ∃ rr, t.ref = rr := ⟨_, rfl⟩
            have HRR := Lib.hid hrr
            rw [hrr] at HREF
            obtain ⟨d, x, hdx⟩ := t.shape
            rw [hdx] at HREF ⊢
            clear hrr hdx
            go_wp2_with fail
            with_reducible refine (HP9.out _ HF5.out).mono ?_
            rintro e w6 ⟨hf6, he6⟩
            have he7 : e = .returned (.tuple #[.agg rr.cells, .bool true]) := by rw [← HRR.out]; exact he6
            clear he6
            obtain ⟨rk, rt, ry, rl⟩ := rr
            unfold DT.cells at HREF he7
            dsimp only at HREF he7
            obtain rfl := he7
            have HF6 := Lib.hid ((HF2.out.trans' HF5.out).trans' hf6)
            have HEQ := eq_ref rk rt ry rl
            clear hf6
            go_wp2_with fail
            have hn7 := Blk.new w6 41 #[.int .i64 rk, .string rt, .string ry, .string rl]
            have HF7 := Lib.hid (HF6.out.alloc (.cells #[.int .i64 rk, .string rt, .string ry, .string rl] 41))
            generalize w6.alloc (.cells #[.int .i64 rk, .string rt, .string ry, .string rl] 41) = w7 at *
            have HC7 := Lib.hid (fun (w' : World) (hf : Fr (fun _ => False) w7 w') => (⟨(hn7.fr hf (fun h => h)).cell 0, (hn7.fr hf (fun h => h)).cell 1, (hn7.fr hf (fun h => h)).cell 2, (hn7.fr hf (fun h => h)).cell 3⟩ : w'.cell? ⟨w6.heap.size, 0, none⟩ = some (.int .i64 rk) ∧ w'.cell? ⟨w6.heap.size, 1, none⟩ = some (.string rt) ∧ w'.cell? ⟨w6.heap.size, 2, none⟩ = some (.string ry) ∧ w'.cell? ⟨w6.heap.size, 3, none⟩ = some (.string rl)))
            clear hn7
            refine wp_region_noPanic ?_
            refine wp_region_held_drew (S := (fun w' => w'.cell? ⟨w6.heap.size, 0, none⟩ = some (.int .i64 rk) ∧ w'.cell? ⟨w6.heap.size, 1, none⟩ = some (.string rt) ∧ w'.cell? ⟨w6.heap.size, 2, none⟩ = some (.string ry) ∧ w'.cell? ⟨w6.heap.size, 3, none⟩ = some (.string rl))) (by kernel_rfl) ?_ (fun hHeld => ?_)
            · exact HC7.out _ (Fr.refl (fun _ => False) w7).drew
            refine wpAnyH_take (i := 0) (oi := _) (v := ?_) (by simp only [List.getElem?_toArray, List.getElem?_cons_zero]; rfl) (by kernel_rfl) (by kernel_rfl) (by kernel_rfl) (fun _ _ _ h => h) (Or.inl ⟨by rfl, ?_⟩) (by assumption) ?_
            rotate_left
            · intro w hSw
              try dsimp only at hSw
              go_simp
              all_goals (with_reducible rfl)
            try simp only [Act.put, List.setIfInBounds_toArray, List.set_cons_zero, List.set_cons_succ]
            refine wpAnyH_take (i := 1) (oi := _) (v := ?_) (by simp only [List.getElem?_toArray, List.getElem?_cons_zero, List.getElem?_cons_succ]; rfl) (by kernel_rfl) (by kernel_rfl) (by kernel_rfl) (fun _ _ _ h => h) (Or.inl ⟨by rfl, ?_⟩) (by assumption) ?_
            rotate_left
            · intro w hSw
              try dsimp only at hSw
              go_simp
              all_goals (with_reducible rfl)
            try simp only [Act.put, List.setIfInBounds_toArray, List.set_cons_zero, List.set_cons_succ]
            refine wpAnyH_take (i := 2) (oi := _) (v := ?_) (by simp only [List.getElem?_toArray, List.getElem?_cons_zero, List.getElem?_cons_succ]; rfl) (by kernel_rfl) (by kernel_rfl) (by kernel_rfl) (fun _ _ _ h => h) (Or.inl ⟨by rfl, ?_⟩) (by assumption) ?_
            rotate_left
            · intro w hSw
              try dsimp only at hSw
              go_simp
              all_goals (with_reducible rfl)
            try simp only [Act.put, List.setIfInBounds_toArray, List.set_cons_zero, List.set_cons_succ]
            refine wpAnyH_take (i := 3) (oi := _) (v := undef) (by simp only [List.getElem?_toArray, List.getElem?_cons_zero, List.getElem?_cons_succ]; rfl) (by kernel_rfl) (by kernel_rfl) (by kernel_rfl) (fun _ _ _ h => h) (Or.inr ⟨by rfl, rfl⟩) (by assumption) ?_
            try simp only [Act.put, List.setIfInBounds_toArray, List.set_cons_zero, List.set_cons_succ]
            refine wpAnyH_take (i := 4) (oi := _) (v := undef) (by simp only [List.getElem?_toArray, List.getElem?_cons_zero, List.getElem?_cons_succ]; rfl) (by kernel_rfl) (by kernel_rfl) (by kernel_rfl) (fun _ _ _ h => h) (Or.inr ⟨by rfl, rfl⟩) (by assumption) ?_
            try simp only [Act.put, List.setIfInBounds_toArray, List.set_cons_zero, List.set_cons_succ]
            refine wpAnyH_take (i := 5) (oi := _) (v := ?_) (by simp only [List.getElem?_toArray, List.getElem?_cons_zero, List.getElem?_cons_succ]; rfl) (by kernel_rfl) (by kernel_rfl) (by kernel_rfl) (fun _ _ _ h => h) (Or.inl ⟨by rfl, ?_⟩) (by assumption) ?_
            rotate_left
            · intro w hSw
              try dsimp only at hSw
              go_simp
              all_goals (with_reducible rfl)
            try simp only [Act.put, List.setIfInBounds_toArray, List.set_cons_zero, List.set_cons_succ]
            refine wpAnyH_take (i := 6) (oi := _) (v := ?_) (by simp only [List.getElem?_toArray, List.getElem?_cons_zero, List.getElem?_cons_succ]; rfl) (by kernel_rfl) (by kernel_rfl) (by kernel_rfl) (fun _ _ _ h => h) (Or.inl ⟨by rfl, ?_⟩) (by assumption) ?_
            rotate_left
            · intro w hSw
              try dsimp only at hSw
              go_simp
              all_goals (with_reducible rfl)
            try simp only [Act.put, List.setIfInBounds_toArray, List.set_cons_zero, List.set_cons_succ]
            refine wpAnyH_take (i := 7) (oi := _) (v := ?_) (by simp only [List.getElem?_toArray, List.getElem?_cons_zero, List.getElem?_cons_succ]; rfl) (by kernel_rfl) (by kernel_rfl) (by kernel_rfl) (fun _ _ _ h => h) (Or.inl ⟨by rfl, ?_⟩) (by assumption) ?_
            rotate_left
            · intro w hSw
              try dsimp only at hSw
              go_simp
              all_goals (with_reducible rfl)
            try simp only [Act.put, List.setIfInBounds_toArray, List.set_cons_zero, List.set_cons_succ]
            refine wpAnyH_take (i := 8) (oi := _) (v := ?_) (by simp only [List.getElem?_toArray, List.getElem?_cons_zero, List.getElem?_cons_succ]; rfl) (by kernel_rfl) (by kernel_rfl) (by kernel_rfl) (fun _ _ _ h => h) (Or.inl ⟨by rfl, ?_⟩) (by assumption) ?_
            rotate_left
            · intro w hSw
              try dsimp only at hSw
              go_simp
              all_goals (with_reducible rfl)
            try simp only [Act.put, List.setIfInBounds_toArray, List.set_cons_zero, List.set_cons_succ]
            refine wpAnyH_take (i := 9) (oi := _) (v := ?_) (by simp only [List.getElem?_toArray, List.getElem?_cons_zero, List.getElem?_cons_succ]; rfl) (by kernel_rfl) (by kernel_rfl) (by kernel_rfl) (fun _ _ _ h => h) (Or.inl ⟨by rfl, ?_⟩) (by assumption) ?_
            rotate_left
            · intro w hSw
              try dsimp only at hSw
              go_simp
              all_goals (with_reducible rfl)
            try simp only [Act.put, List.setIfInBounds_toArray, List.set_cons_zero, List.set_cons_succ]
            refine wpAnyH_take (i := 11) (oi := _) (v := ?_) (by simp only [List.getElem?_toArray, List.getElem?_cons_zero, List.getElem?_cons_succ]; rfl) (by kernel_rfl) (by kernel_rfl) (by kernel_rfl) (fun _ _ _ h => h) (Or.inl ⟨by rfl, ?_⟩) (by assumption) ?_
            rotate_left
            · intro w hSw
              try dsimp only at hSw
              go_simp
              all_goals (with_reducible rfl)
            try simp only [Act.put, List.setIfInBounds_toArray, List.set_cons_zero, List.set_cons_succ]
            refine wpAnyH_ready (rs := [10]) (by kernel_rfl) (by simp) ?_
            refine AllReadyH.cons (o := _) (by simp only [List.getElem?_toArray, List.getElem?_cons_zero, List.getElem?_cons_succ]; rfl) (fun K hK => ?_) ?_
            · skip
              go_simp
              go_at_call 10
              refine (HREF.out _).mono ?_
              rintro e w8 ⟨rfl, hf8⟩
              have F8 : Fr (fun _ => False) w7 w8 := ((Fr.refl (fun _ => False) w7).drew).trans' hf8
              refine hK.out _ _ ?_ (fun hHeld => ?_)
              · try dsimp only
                exact HC7.out _ F8
              clear hK K
              try simp only [Act.put, List.setIfInBounds_toArray, List.set_cons_zero, List.set_cons_succ]
              refine wpAnyH_take (i := 12) (oi := _) (v := ?_) (by simp only [List.getElem?_toArray, List.getElem?_cons_zero, List.getElem?_cons_succ]; rfl) (by kernel_rfl) (by kernel_rfl) (by kernel_rfl) (fun _ _ _ h => h) (Or.inl ⟨by rfl, ?_⟩) (by assumption) ?_
              rotate_left
              · intro w hSw
                try dsimp only at hSw
                go_simp
                all_goals (with_reducible rfl)
              try simp only [Act.put, List.setIfInBounds_toArray, List.set_cons_zero, List.set_cons_succ]
              refine wpAnyH_take (i := 13) (oi := _) (v := ?_) (by simp only [List.getElem?_toArray, List.getElem?_cons_zero, List.getElem?_cons_succ]; rfl) (by kernel_rfl) (by kernel_rfl) (by kernel_rfl) (fun _ _ _ h => h) (Or.inl ⟨by rfl, ?_⟩) (by assumption) ?_
              rotate_left
              · intro w hSw
                try dsimp only at hSw
                go_simp
                all_goals (with_reducible rfl)
              try simp only [Act.put, List.setIfInBounds_toArray, List.set_cons_zero, List.set_cons_succ]
              refine wpAnyH_take (i := 14) (oi := _) (v := ?_) (by simp only [List.getElem?_toArray, List.getElem?_cons_zero, List.getElem?_cons_succ]; rfl) (by kernel_rfl) (by kernel_rfl) (by kernel_rfl) (fun _ _ _ h => h) (Or.inl ⟨by rfl, ?_⟩) (by assumption) ?_
              rotate_left
              · intro w hSw
                try dsimp only at hSw
                go_simp
                all_goals (with_reducible rfl)
              try simp only [Act.put, List.setIfInBounds_toArray, List.set_cons_zero, List.set_cons_succ]
              refine wpAnyH_take (i := 15) (oi := _) (v := ?_) (by simp only [List.getElem?_toArray, List.getElem?_cons_zero, List.getElem?_cons_succ]; rfl) (by kernel_rfl) (by kernel_rfl) (by kernel_rfl) (fun _ _ _ h => h) (Or.inl ⟨by rfl, ?_⟩) (by assumption) ?_
              rotate_left
              · intro w hSw
                try dsimp only at hSw
                go_simp
                all_goals (with_reducible rfl)
              try simp only [Act.put, List.setIfInBounds_toArray, List.set_cons_zero, List.set_cons_succ]
              refine wpAnyH_done (by kernel_rfl) ?_ _
              refine NoPanic.normal ?_
              go_wp2_with fail
              go_ret
              exact ⟨rfl, (HF7.out.trans' F8)⟩
            exact AllReadyH.nil
end

section
open Go.ChangeShapes Go.WideShapes Go.ChangeAt Go.Deep Go.RowKit

/-- What the rows list is what the walk reads of the library's variables. -/
theorem glob_of_laid {W : World} (h : laidMetH Tryz.prog laid5 W) : Glob W := by
  rw [MakeChecks.laidMetH_plain _ _ _ (by kernel_rfl)] at h
  obtain ⟨ps, ⟨g0, t0, cs0, f0, p0, q0, hg0, ht0, hv0, hd0, ⟨g1, t1, cs1, f1, p1, q1, hg1, ht1, hv1, hd1, ⟨g2, t2, cs2, f2, p2, q2, hg2, ht2, hv2, hd2, ⟨g3, t3, cs3, f3, p3, q3, hg3, ht3, hv3, hd3, _, _⟩, _⟩, _⟩, _⟩, _, _⟩ := h
  obtain rfl : 2 = g2 := Option.some.inj ((show Tryz.prog.globalNamed "internal/strconv.uint64pow10" = some 2 by kernel_rfl).symm.trans hg2)
  obtain rfl : 191 = t2 := Option.some.inj ((show (Tryz.prog.globals[2]?).map (·.type) = some 191 by kernel_rfl).symm.trans ht2)
  obtain rfl : 1 = g3 := Option.some.inj ((show Tryz.prog.globalNamed "strconv.ErrRange" = some 1 by kernel_rfl).symm.trans hg3)
  obtain rfl : 148 = t3 := Option.some.inj ((show (Tryz.prog.globals[1]?).map (·.type) = some 148 by kernel_rfl).symm.trans ht3)
  refine ⟨?_, ?_⟩
  · obtain ⟨ms, hms⟩ : ∃ ms, Tryz.prog.underlying 148 = some (.interface ms) := ⟨_, Tryz.underlying148⟩
    obtain ⟨_, u, v, hcs, _, _⟩ := iface_of_trod hms (show DataW.trod (fun _ => ()) Tryz.prog W 0 (fun _ => true) false f3 148 cs3.toList = some (.iface "*errors.errorString" (.ptr (.agg [.lit (.string [118, 97, 108, 117, 101, 32, 111, 117, 116, 32, 111, 102, 32, 114, 97, 110, 103, 101])])), p3) from hd3)
    exact ⟨u, v, by rw [hv3, Array.eq_one_of_toList hcs]⟩
  · have e : (Rows.laid_internal_strconv_uint64pow10 : DataW Unit) = Lib.tabData .u64 Lib.pow10Tab := by kernel_rfl
    have hd : DataW.trod (fun _ => ()) Tryz.prog W 0 (fun _ => true) false f2 191 cs2.toList = some (Lib.tabData .u64 Lib.pow10Tab, p2) := by rw [← e]; exact hd2
    unfold Lib.TabIs
    rw [show W.var? Tryz.prog "internal/strconv.uint64pow10" = some cs2 from hv2, ← Lib.cells_of_tab (e := 127) (n := 20) Tryz.underlying191 Tryz.underlying127 (by kernel_rfl) (by kernel_rfl) hd]

section
variable {H : Type} {enc : TypeId × Value → H} {w : World} {base : Nat} {spare : Nat → Bool} {held : Bool} {d : DataW H} {p : List MemPlace}

theorem Tryz.cells22 : Tryz.prog.cellsOf 22 = 2 := by kernel_rfl
theorem Tryz.cells5 : Tryz.prog.cellsOf 5 = 1 := by kernel_rfl
set_option maxRecDepth 100000 in
theorem open_pair22 {r : Reach} {b0 : Nat} {v : Value} (hv : Value.okWide Tryz.prog w r b0 22 v) (h : DataW.Trod enc Tryz.prog w base spare held 22 v d p) :
    ∃ x0 x1 : Int, v = .agg #[.int .u8 x0, .int .u8 x1] ∧ (Lit.int .u8 x0).wf = true ∧ (Lit.int .u8 x1).wf = true := by
  simp only [Value.okWide, Tryz.underlying22] at hv
  obtain ⟨cs, rfl, hsz, _⟩ := hv
  rw [Tryz.cells22] at hsz
  obtain ⟨l⟩ := cs
  match l, hsz with
  | [c0, c1], _ =>
    obtain ⟨fuel, hf⟩ := h
    obtain ⟨xs, m', _, _, _, hxl, hg⟩ := DataW.trod_array Tryz.underlying22 hf
    have g0 := hg 0 (by omega)
    have g1 := hg 1 (by omega)
    match xs, hxl with
    | [z0, z1], _ =>
      simp only [Tryz.cells5, Value.cells] at g0 g1
      obtain ⟨p0, f0, _, w0⟩ := DataW.trod_int Tryz.underlying5 g0
      obtain ⟨p1, f1, _, w1⟩ := DataW.trod_int Tryz.underlying5 g1
      simp at f0 f1
      subst f0 f1
      exact ⟨p0, p1, rfl, w0, w1⟩
end

set_option maxRecDepth 100000 in
theorem totalFolds_lifted (os : Os) (started : os.Started) (H : Type) (enc : TypeId × Value → H) :
    ReturnsInHanded {} Tryz.checked os 3 .any (fun w args => (Rows.totalFoldsSpec.pre enc Tryz.prog Tryz.f3 [] false w args ∧ laidMetH Tryz.prog laid5 w) ∧ sizedMet enc Tryz.prog Tryz.f3 (OpenSpec.ofChange Rows.totalFoldsSpec) false w args)
      (Rows.totalFoldsSpec.post enc Tryz.prog Tryz.f3 false true false false) := by
  refine returnsInHanded_of_change_and (C := Tryz.checked) (X := fun w _ => laidMetH Tryz.prog laid5 w) (fun _ _ _ hh h => h.of_heap hh) own_knob started (by kernel_rfl) Tryz.func3
    (ChangeSpec.witness_shaped (enc := enc) (C := Tryz.checked) (os := os) (X := fun w _ => laidMetH Tryz.prog laid5 w) false (World.doorLaid Tryz.prog 72 os) #[.agg #[.int .u8 0, .int .u8 0], .slice none 0 0] 8 rfl (door_shaped os _) (by kernel_rfl) (by kernel_rfl) (by kernel_rfl) (door_met os _)) ?_
  intro W base args ds gs before hval0 hW _ _ hL _
  have hval : ∀ (j : Nat) t v, Tryz.f3.params[j]? = some t → args[j]? = some v → Value.okWide Tryz.prog W .any base t v := hval0
  have hW' := hW
  obtain ⟨p, q, hA0, hV, rfl, hfz, hnd⟩ := hW
  have hA : DataW.TrodAll enc Tryz.prog W 0 (fun _ => true) true Tryz.f3.params.toList args.toList ds p := hA0
  rw [Tryz.params3] at hA hval
  obtain ⟨v0, vs0, d0, ds0, p0, q0, hargs, rfl, rfl, h0, r0⟩ := trodAll_cons hA
  obtain ⟨v1, vs1, d1, ds1, p1, q1, rfl, rfl, rfl, h1, r1⟩ := trodAll_cons r0
  obtain ⟨rfl, rfl, rfl⟩ := trodAll_nil r1
  obtain rfl : args = #[v0, v1] := by cases args; simp_all
  obtain ⟨rfl, rfl⟩ := trodVars_none hV
  have k0 := h0
  have lt0 : ∀ x ∈ p0, x.block < W.heap.size := by obtain ⟨m, hm⟩ := k0; exact DataW.trod_lt m _ _ _ hm
  obtain ⟨x0, x1, rfl, wx0, wx1⟩ := open_pair22 (hval 0 22 v0 rfl rfl) h0
  obtain ⟨a1, len1, cap1, rfl⟩ := okWide_slice Tryz.underlying23 (hval 1 23 v1 rfl rfl)
  have k1 := h1
  have lt1 : ∀ x ∈ p1, x.block < W.heap.size := by obtain ⟨m, hm⟩ := k1; exact DataW.trod_lt m _ _ _ hm
  obtain ⟨hlen, z1, w1⟩ : len1 ≤ maxLen ∧ ∃ zs, IsIn W a1 len1 cap1 zs := by
    obtain ⟨fuel, hf⟩ := h1
    exact open_in rfl hf
  have hb0 := bounds_u8 wx0
  have hb1 := bounds_u8 wx1
  clear hA0 hval0
  refine (foldsLaw_any x0 x1 hb0.1 hb0.2 hb1.1 hb1.2 a1 len1 cap1 z1 W w1 hlen (glob_of_laid hL)).mono fun e W' ⟨he, hfr⟩ => ?_
  subst he
  have bel : Below W.heap.size W W' := hfr.below (Nat.le_refl _) (fun _ h => h.elim)
  exact ⟨_, rfl, _, _, _, [], _, [], hW', trodAll_mk1 (shut_bool Tryz.underlying4 _), (trodAll_cons_mk (Below.trod laidOut (by kernel_rfl) (of_decide_eq_true (by kernel_rfl)) k0 bel lt0) (trodAll_cons_mk (Below.trod laidOut (by kernel_rfl) (of_decide_eq_true (by kernel_rfl)) k1 bel lt1) trodAll_mk0)), rfl, bel.frame _, fun h => by cases h⟩

theorem totalFolds_over : Rows.TotalFoldsSaid :=
  OpenClaim.holds_of_wide 3 Tryz.f3 rfl rfl rfl rfl rfl rfl rfl ⟨rfl, rfl, rfl, rfl, rfl⟩ rfl rfl rfl rfl rfl (by kernel_rfl) Tryz.func3 (by kernel_rfl)
    (of_decide_eq_true (by kernel_rfl)) (by unfold Func.isWrapper; first | (rw [if_pos (by decide +kernel)]; kernel_rfl) | (rw [if_neg (by decide +kernel)]; exact ⟨rfl, rfl⟩))
    (fun os started H enc _ => totalFolds_lifted os started H enc)

/-- The statement: the tied card. -/
theorem totalFolds_holds : Rows.TotalFoldsCardSaid :=
  Claim7.holds_tied_plain_at .later [] [.data, .data, .data, .sentinel, .sentinel] true (true, "f8c912ddab0669c1af228475e9997e1b78d04c99ea03216e2175044e27f373f2") true
    totalFolds_over (fun _ h => by cases h) (by kernel_rfl) (fun _ h => by cases h) totalFolds_row_tie rfl ⟨rfl, rfl⟩ (by kernel_rfl) rfl
    (fun f fn hf hfn => by
      obtain rfl : f = 3 := Option.some.inj ((show Tryz.prog.funcNamed "beck/becklaw17.TotalFolds" = some 3 by kernel_rfl).symm.trans hf) |>.symm
      obtain rfl : fn = Tryz.f3 := (Option.some.inj (Tryz.func3.symm.trans hfn)).symm
      exact ⟨by kernel_rfl, fun j t ht => by
        rw [Tryz.params3] at ht
        have hm : t ∈ [22, 23] := by simpa using Array.mem_of_getElem? ht
        have hall : ([22, 23].all fun u => !Tryz.prog.wantsStandIn u) = true := by kernel_rfl
        exact (show Tryz.prog.wantsStandIn t = false by simpa using List.all_eq_true.1 hall t hm)⟩)
    (by kernel_rfl)

#print axioms totalFolds_holds
end

end Go.Proofs.YtflhmieeidnpgaaGreatDoor
