/- What Build makes: spec and states. -/
import Derived.Test.YtebddgdkndmpjaaGreatDoorGw
import Derived.Test.YtebddgdkndmpjaaGreatDoorGt
import Derived.Test.YtebddgdkndmpjaaGreatDoorGl
import Derived.Deep.CutBlock
import Derived.Deep.RegionLawGrows
import Derived.Deep.Cut
import Derived.Deep.CutRange
import Derived.WalkKit
import Derived.WalkLawsBesides
import Derived.WalkSpells
import Derived.Deep.QuietTactic
import Derived.BigRegion
import Derived.BigQuiet
import Derived.Lib.Hide
import Derived.Outline
import Derived.Deep.AppendLies
import Derived.Deep.RegionLaw
import Derived.Deep.RegionWith
import Derived.Deep.RegionHeld3
import Derived.Deep.LoopGhost
import Derived.Deep.DeepFit
import Derived.Laws.ResultCell
import Derived.Laws.RangeAny
import Derived.Deep.MidRow
import Derived.StillTailTactics
import Derived.OpenShut
namespace Go.Proofs.YtebddgdkndmpjaaGreatDoor
set_option linter.unusedVariables false
open Go.RowKit Go

/-- Three terms of the document's. -/
structure D3 where
  a : DT
  b : DT
  c : DT
def D3.at (d : D3) (k : Nat) : DT := if k = 0 then d.a else if k = 1 then d.b else d.c
def DT.list (x : DT) : List Value := [.int .i64 x.kind, .string x.text, .string x.type, .string x.lang]
def D3.list (d : D3) : List Value := d.a.list ++ d.b.list ++ d.c.list
instance : Inhabited D3 := ⟨⟨⟨0, ⟨#[]⟩, ⟨#[]⟩, ⟨#[]⟩⟩, ⟨0, ⟨#[]⟩, ⟨#[]⟩, ⟨#[]⟩⟩, ⟨0, ⟨#[]⟩, ⟨#[]⟩, ⟨#[]⟩⟩⟩⟩
/-- The input, in memory. -/
def IsIn (w : World) (a : Option Addr) (len cap : Nat) (zs : List D3) : Prop :=
  (a = none ∧ len = 0 ∧ cap = 0 ∧ zs = []) ∨
  ∃ x : Addr, a = some x ∧ len ≤ cap ∧ zs.length = len ∧ ∀ i, i < len → x.spot = none ∧ ∀ j, j < 12 → w.cell? ⟨x.block, x.off + i * 12 + j, none⟩ = (zs.getD i default).list[j]?

theorem IsIn.len_ {w : World} {a : Option Addr} {len cap : Nat} {zs : List D3} (h : IsIn w a len cap zs) : zs.length = len := by
  rcases h with ⟨_, h1, _, h2⟩ | ⟨_, _, _, h, _⟩
  · rw [h2, h1]; rfl
  · exact h
theorem IsIn.at_ {w : World} {a : Option Addr} {len cap : Nat} {zs : List D3} (h : IsIn w a len cap zs) {i : Nat} (hi : i < len) :
    ∃ b o, a = some ⟨b, o, none⟩ ∧ len ≤ cap ∧ b < w.heap.size ∧ ∀ j, j < 12 → w.cell? ⟨b, o + i * 12 + j, none⟩ = (zs.getD i default).list[j]? := by
  rcases h with ⟨_, h, _, _⟩ | ⟨x, rfl, hl, _, hc⟩
  · omega
  · obtain ⟨hs, h1⟩ := hc i hi
    obtain ⟨b, o, sp⟩ := x
    simp only at hs
    subst hs
    have h0 := h1 0 (by omega)
    exact ⟨b, o, rfl, hl, World.block_lt_of_cell? w _ h0, h1⟩

/-! spec -/
/-- A row of the document's. -/
def BRow (w : World) (B : Nat) (v : Value) (bs : List BD) : Prop := w.ownsRow B 202 5 v bs.length (bcells bs)
structure RefsAt (w : World) (B : Nat) (vr : Value) (vals : List Value) (rows : List (List BD)) : Prop where
  own : w.ownsRow B 126 1 vr rows.length vals
  each : ∀ i, i < rows.length → BRow w B (vals.getD i undef) (rows.getD i [])
theorem BRow.fr {S : Nat → Prop} {w w' : World} {B : Nat} {v : Value} {xs : List BD} (h : BRow w B v xs) (hf : Fr S w w') (hs : ∀ k, v.ownBlock = some k → ¬ S k) : BRow w' B v xs := ownsRow_fr h hf hs
theorem RefsAt.fr {S : Nat → Prop} {w w' : World} {B : Nat} {vr : Value} {vals : List Value} {rows : List (List BD)} (h : RefsAt w B vr vals rows) (hf : Fr S w w') (h1 : ∀ k, vr.ownBlock = some k → ¬ S k)
    (h2 : ∀ i, i < rows.length → ∀ k, (vals.getD i undef).ownBlock = some k → ¬ S k) : RefsAt w' B vr vals rows :=
  ⟨ownsRow_fr h.own hf h1, fun i hi => (h.each i hi).fr hf (h2 i hi)⟩
theorem RefsAt.frF {w w' : World} {B : Nat} {vr : Value} {vals : List Value} {rows : List (List BD)} (h : RefsAt w B vr vals rows) (hf : Fr (fun _ => False) w w') : RefsAt w' B vr vals rows :=
  h.fr hf (fun _ _ h => h) (fun _ _ _ _ h => h)
theorem RefsAt.len {w : World} {B : Nat} {vr : Value} {vals : List Value} {rows : List (List BD)} (h : RefsAt w B vr vals rows) : vals.length = rows.length := by have := h.own.1; simpa using this
theorem RefsAt.base {w : World} {B B' : Nat} {vr : Value} {vals : List Value} {rows : List (List BD)} (h : RefsAt w B vr vals rows) (hB : B' ≤ B) : RefsAt w B' vr vals rows :=
  ⟨ownsRow_base h.own hB, fun i hi => ownsRow_base (h.each i hi) hB⟩
theorem RefsAt.frB {w w' : World} {B tb : Nat} {vr : Value} {vals : List Value} {rows : List (List BD)} {t : TypeId} {cs : Array Value} (h : RefsAt w B vr vals rows) (hb : Blk w tb t cs) (h48 : 126 ≠ t) (h3 : 202 ≠ t) (hf : Fr (fun j => j = tb) w w') : RefsAt w' B vr vals rows :=
  h.fr hf (fun k hk e => own_blk_ne h.own hb h48 (by rw [hk, e])) (fun i hi k hk e => own_blk_ne (h.each i hi) hb h3 (by rw [hk, e]))
theorem RefsAt.push {w w6 : World} {B H : Nat} {vr v6 nv : Value} {vals : List Value} {rows : List (List BD)} {xs : List BD} (h : RefsAt w B vr vals rows) (hn : BRow w H nv xs) (hBH : B ≤ H) (o : Obj)
    (hown : w6.ownsRow B 126 1 v6 (rows.length + 1) (vals ++ [nv])) (hg : (w.alloc o).grownBy w6 vr.ownBlock) : RefsAt w6 B v6 (vals ++ [nv]) (rows ++ [xs]) := by
  have hf : Fr (fun j => vr.ownBlock = some j) w w6 := ((Fr.refl _ w).alloc o).trans (Fr.of_grown hg) (fun _ _ h => h)
  have hl := h.len
  refine ⟨by rw [List.length_append]; exact hown, fun i hi => ?_⟩
  rw [List.length_append, List.length_singleton] at hi
  by_cases hlt : i < rows.length
  · have e1 : (vals ++ [nv]).getD i undef = vals.getD i undef := by rw [List.getD_eq_getElem?_getD, List.getElem?_append_left (by omega), ← List.getD_eq_getElem?_getD]
    have e2 : (rows ++ [xs]).getD i [] = rows.getD i [] := by rw [List.getD_eq_getElem?_getD, List.getElem?_append_left (by omega), ← List.getD_eq_getElem?_getD]
    rw [e1, e2]
    exact (h.each i hlt).fr hf (fun k hk e => row_row_ne h.own (h.each i hlt) (by decide) e hk)
  · have hi2 : i = rows.length := by omega
    subst hi2
    have e1 : (vals ++ [nv]).getD rows.length undef = nv := by rw [List.getD_eq_getElem?_getD, List.getElem?_append_right (by omega), hl]; simp
    have e2 : (rows ++ [xs]).getD rows.length [] = xs := by rw [List.getD_eq_getElem?_getD, List.getElem?_append_right (by omega)]; simp
    rw [e1, e2]
    exact ownsRow_base (hn.fr hf (fun k hk e => row_row_ne h.own hn (by decide) e hk)) hBH
theorem info66 : (Tryz.prog.info? 126).map (fun i => (i.zero, i.size, i.bytes)) = some (some (.slice none 0 0), 1, 24) := by kernel_rfl
theorem IsDict.base {w : World} {B B' b r : Nat} {vt : Value} {ts : List Tm} {room : Int} (h : IsDict w B b r vt ts room) (hB : B' ≤ B) : IsDict w B' b r vt ts room :=
  ⟨h.blk, ownsRow_base h.row hB, h.map, by have := h.leb; omega, by have := h.ler; omega⟩
/-- What a dictionary writes lies apart from all else. -/
theorem IsDict.far {w : World} {B b r : Nat} {vt : Value} {ts : List Tm} {room : Int} (h : IsDict w B b r vt ts room) {B' e s n : Nat} {v : Value} {xs : List Value} (hv : w.ownsRow B' e s v n xs) (h1 : e ≠ 150) (h2 : 35 ≠ e) :
    ∀ k, v.ownBlock = some k → ¬ (k = b ∨ k = r ∨ vt.ownBlock = some k) := fun k hk hn => by
  rcases hn with hn | hn | hn
  · exact own_blk_ne hv h.blk h1 (by rw [hk, hn])
  · exact h.map.ne_row hv (by rw [hk, hn])
  · exact row_row_ne h.row hv h2 hn hk
theorem IsDict.farB {w : World} {B b r : Nat} {vt : Value} {ts : List Tm} {room : Int} (h : IsDict w B b r vt ts room) {g : Nat} {t : TypeId} {cs : Array Value} (hv : Blk w g t cs) (h1 : t ≠ 150) (h2 : 35 ≠ t) : ¬ (g = b ∨ g = r ∨ vt.ownBlock = some g) := fun hn => by
  rcases hn with hn | hn | hn
  · exact Blk.ne_ hv h.blk h1 hn
  · exact h.map.ne_blk hv hn
  · exact own_blk_ne h.row hv h2 hn
theorem results_4' {P : Program} {fn : Func} {a p c d : Tmp} {ty : TypeId} (h : fn.results = #[.tmp a, .cell p ty, .tmp c, .tmp d]) (tmps : Array Value) (w : World) :
    (results fn tmps).run P w = ((asAddr (tmps.getD p undef)).run P w).andThen fun q w₁ => ((loadVar ty q).run P w₁).andThen fun v w₂ => .ok (.tuple #[tmps.getD a undef, v, tmps.getD c undef, tmps.getD d undef]) w₂ := by
  simp only [results, h]
  simp [Sem.run_bind, Result.andThen]
theorem results_4 {P : Program} {fn : Func} {a p c d : Tmp} {ty : TypeId} (h : fn.results = #[.tmp a, .cell p ty, .tmp c, .tmp d]) (tmps : Array Value) (w : World) (g : Nat) (t : TypeId) (cs : Array Value) (fr : Nat × Nat) (ds : TypeDesc)
    (hp : tmps.getD p undef = .pointer (some ⟨g, 0, none⟩)) (hg : w.heap[g]? = some (.cells cs t fr))
    (hu : P.underlying ty = some ds) (hd : (match ds with | .struct _ | .array _ _ => true | _ => false) = true) (hi : (P.info? ty).map (·.size) = some cs.size) (va vc vd : Value) (ha : tmps.getD a undef = va) (hc : tmps.getD c undef = vc) (hdd : tmps.getD d undef = vd) :
    (results fn tmps).run P w = .ok (.tuple #[va, .agg cs, vc, vd]) w := by
  rw [results_4' h, hp, ha, hc, hdd]
  simp [asAddr, run_loadVar_row w g t ty cs fr ds hg hu hd hi]

/-- Is a term not too long? -/
def dOk (x : DT) : Bool := decide (x.text.size ≤ 200) && (decide (x.type.size ≤ 200) && decide (x.lang.size ≤ 50))
def kind4 (k : Int) : Int := (IntKind.u64.wrap k).tmod 4
def dUse (x : DT) : Bool := (kind4 x.kind != 3) && rGood (plainT x)
/-- What is made of a row: the dictionary's terms, numbers, the document's row. -/
structure BSt where
  ts : List Tm
  xs : List Int
  bs : List BD
def vName (k : Nat) : ByteArray := ⟨#[UInt8.ofNat (97 + k)]⟩
noncomputable def bElem (st : BSt) (k : Nat) (x : DT) : BSt :=
  if dUse x = true then ⟨putL st.ts (toTm (plainT x)) 1000, st.xs ++ [putN st.ts (toTm (plainT x)) 1000], st.bs ++ [⟨vName k, plainT x⟩]⟩ else ⟨st.ts, st.xs ++ [-1], st.bs⟩
noncomputable def bRowTo (ts : List Tm) (d : D3) : Nat → BSt
  | 0 => ⟨ts, [], []⟩
  | k + 1 => bElem (bRowTo ts d k) k (d.at k)
/-- What is made of the first rows. -/
structure BAll where
  ts : List Tm
  rows : List (List Int)
  refs : List (List BD)
noncomputable def bTo (zs : List D3) : Nat → BAll
  | 0 => ⟨[], [], []⟩
  | i + 1 => ⟨(bRowTo (bTo zs i).ts (zs.getD i default) 3).ts, (bTo zs i).rows ++ [(bRowTo (bTo zs i).ts (zs.getD i default) 3).xs], (bTo zs i).refs ++ [(bRowTo (bTo zs i).ts (zs.getD i default) 3).bs]⟩
theorem putL_len (ts : List Tm) (t : Tm) (room : Int) : (putL ts t room).length ≤ ts.length + 1 := by
  unfold putL
  split
  · split
    · omega
    · split
      · omega
      · simp
  · omega
theorem putN_pos (ts : List Tm) (t : Tm) (room : Int) : 0 ≤ putN ts t room := by
  unfold putN
  split
  · split
    · omega
    · split <;> omega
  · omega
theorem bRowTo_ts (ts : List Tm) (d : D3) : ∀ k, (bRowTo ts d k).ts.length ≤ ts.length + k
  | 0 => Nat.le_refl _
  | k + 1 => by
    have h := bRowTo_ts ts d k
    unfold bRowTo bElem
    split
    · have := putL_len (bRowTo ts d k).ts (toTm (plainT (d.at k))) 1000
      simp only
      omega
    · simp only
      omega
theorem bRowTo_xs (ts : List Tm) (d : D3) : ∀ k, (bRowTo ts d k).xs.length = k
  | 0 => rfl
  | k + 1 => by
    have h := bRowTo_xs ts d k
    unfold bRowTo bElem
    split <;> simp [h]
theorem bRowTo_bs (ts : List Tm) (d : D3) : ∀ k, (bRowTo ts d k).bs.length ≤ k ∧ ∀ b ∈ (bRowTo ts d k).bs, ∃ j, j < k ∧ b.var = vName j
  | 0 => ⟨Nat.le_refl _, fun b h => by cases h⟩
  | k + 1 => by
    obtain ⟨h1, h2⟩ := bRowTo_bs ts d k
    unfold bRowTo bElem
    split
    · refine ⟨by simp; omega, fun b hb => ?_⟩
      simp only [List.mem_append, List.mem_singleton] at hb
      rcases hb with hb | rfl
      · obtain ⟨j, hj, e⟩ := h2 b hb
        exact ⟨j, by omega, e⟩
      · exact ⟨k, by omega, rfl⟩
    · refine ⟨by simp only; omega, fun b hb => ?_⟩
      obtain ⟨j, hj, e⟩ := h2 b hb
      exact ⟨j, by omega, e⟩
theorem vName_less : ∀ k, k < 3 → ∀ j, j < k → Op.bytesLess (vName j).toList (vName k).toList = true := by decide +kernel
theorem bRowTo_less (ts : List Tm) (d : D3) (k : Nat) (hk : k < 3) (i : Nat) (hi : i < (bRowTo ts d k).bs.length) : Op.bytesLess ((bRowTo ts d k).bs.getD i ⟨⟨#[]⟩, ⟨0, ⟨#[]⟩, ⟨#[]⟩, ⟨#[]⟩⟩⟩).var.toList (vName k).toList = true := by
  have hm : (bRowTo ts d k).bs.getD i ⟨⟨#[]⟩, ⟨0, ⟨#[]⟩, ⟨#[]⟩, ⟨#[]⟩⟩⟩ ∈ (bRowTo ts d k).bs := by
    rw [List.getD_eq_getElem?_getD, List.getElem?_eq_getElem hi]
    exact List.getElem_mem hi
  obtain ⟨j, hj, e⟩ := (bRowTo_bs ts d k).2 _ hm
  rw [e]
  exact vName_less k hk j hj
theorem bRowTo_min (ts : List Tm) (d : D3) : ∀ k, ∀ x ∈ (bRowTo ts d k).xs, -1 ≤ x
  | 0, x, h => by cases h
  | k + 1, x, h => by
    have ih := bRowTo_min ts d k
    unfold bRowTo bElem at h
    split at h
    · simp only [List.mem_append, List.mem_singleton] at h
      rcases h with h | rfl
      · exact ih x h
      · have := putN_pos (bRowTo ts d k).ts (toTm (plainT (d.at k))) 1000
        omega
    · simp only [List.mem_append, List.mem_singleton] at h
      rcases h with h | rfl
      · exact ih x h
      · omega
theorem bTo_len (zs : List D3) : ∀ i, (bTo zs i).rows.length = i ∧ (bTo zs i).refs.length = i ∧ (bTo zs i).ts.length ≤ 3 * i ∧ (∀ r ∈ (bTo zs i).rows, r.length = 3 ∧ ∀ x ∈ r, -1 ≤ x)
  | 0 => ⟨rfl, rfl, Nat.le_refl _, fun r h => by cases h⟩
  | i + 1 => by
    obtain ⟨h1, h2, h3, h4⟩ := bTo_len zs i
    unfold bTo
    refine ⟨by simp [h1], by simp [h2], ?_, fun r hr => ?_⟩
    · have := bRowTo_ts (bTo zs i).ts (zs.getD i default) 3
      simp only
      omega
    · simp only [List.mem_append, List.mem_singleton] at hr
      rcases hr with hr | rfl
      · exact h4 r hr
      · exact ⟨bRowTo_xs _ _ 3, bRowTo_min _ _ 3⟩

/-- The state of Build's loops. -/
structure BInv (w wr : World) (b r : Nat) (vt v8 v9 : Value) (vals8 vals9 : List Value) (ts : List Tm) (rows : List (List Int)) (refs : List (List BD)) : Prop where
  res : Blk wr w.heap.size 63 #[.slice none 0 0, .slice none 0 0]
  dict : IsDict wr w.heap.size b r vt ts 1000
  rows : RowsAt wr w.heap.size v8 vals8 rows
  refs : RefsAt wr w.heap.size v9 vals9 refs
  fr : Fr (fun _ => False) w wr
section
variable {w wr w' : World} {b r : Nat} {vt v8 v9 : Value} {vals8 vals9 : List Value} {ts : List Tm} {rows : List (List Int)} {refs : List (List BD)}
theorem BInv.frF (h : BInv w wr b r vt v8 v9 vals8 vals9 ts rows refs) (hf : Fr (fun _ => False) wr w') : BInv w w' b r vt v8 v9 vals8 vals9 ts rows refs :=
  ⟨h.res.fr hf (fun h => h), h.dict.frF hf, h.rows.frF hf, h.refs.frF hf, h.fr.trans' hf⟩
/-- Behind Put. -/
theorem BInv.put {vt' : Value} {ts' : List Tm} (h : BInv w wr b r vt v8 v9 vals8 vals9 ts rows refs) (hd : IsDict w' w.heap.size b r vt' ts' 1000) (hf : Fr (fun j => j = b ∨ j = r ∨ vt.ownBlock = some j) wr w') : BInv w w' b r vt' v8 v9 vals8 vals9 ts' rows refs := by
  refine ⟨h.res.fr hf (h.dict.farB h.res (by decide) (by decide)), hd, h.rows.fr hf (h.dict.far h.rows.own (by decide) (by decide)) (fun i hi => h.dict.far (h.rows.each i hi) (by decide) (by decide)),
    h.refs.fr hf (h.dict.far h.refs.own (by decide) (by decide)) (fun i hi => h.dict.far (h.refs.each i hi) (by decide) (by decide)), ?_⟩
  refine h.fr.trans hf (fun i hi hn => ?_)
  have h1 := h.dict.leb
  have h2 := h.dict.ler
  rcases hn with hn | hn | hn
  · omega
  · omega
  · have := (h.dict.row.lt i hn).1
    omega
theorem BInv.putI {vt' : Value} {ts' : List Tm} {v : Value} {xs : List Int} (h : BInv w wr b r vt v8 v9 vals8 vals9 ts rows refs) (hv : IntRow wr w.heap.size v xs) (hf : Fr (fun j => j = b ∨ j = r ∨ vt.ownBlock = some j) wr w') : IntRow w' w.heap.size v xs :=
  hv.fr hf (h.dict.far hv (by decide) (by decide))
theorem BInv.putB {vt' : Value} {ts' : List Tm} {v : Value} {xs : List BD} (h : BInv w wr b r vt v8 v9 vals8 vals9 ts rows refs) (hv : BRow wr w.heap.size v xs) (hf : Fr (fun j => j = b ∨ j = r ∨ vt.ownBlock = some j) wr w') : BRow w' w.heap.size v xs :=
  hv.fr hf (h.dict.far hv (by decide) (by decide))
end
theorem own_ge {w : World} {B e s n : Nat} {v : Value} {xs : List Value} (h : w.ownsRow B e s v n xs) {k : Nat} (hk : v.ownBlock = some k) : B ≤ k := (h.lt k hk).1
section
variable {w wr w' : World} {b r : Nat} {vt v8 v9 : Value} {vals8 vals9 : List Value} {ts : List Tm} {rows : List (List Int)} {refs : List (List BD)}
/-- Behind an append to a row of the call's own, of the blocks from H on. -/
theorem BInv.append3 {H : Nat} {v : Value} {xs : List Int} (h : BInv w wr b r vt v8 v9 vals8 vals9 ts rows refs) (hv : IntRow wr H v xs) (hH : w.heap.size ≤ H)
    (hlt : ∀ i, i < rows.length → ∀ k, (vals8.getD i undef).ownBlock = some k → k < H) (hf : Fr (fun j => v.ownBlock = some j) wr w') : BInv w w' b r vt v8 v9 vals8 vals9 ts rows refs := by
  refine ⟨h.res.fr hf (own_blk_ne hv h.res (by decide)), h.dict.fr hf (own_blk_ne hv h.dict.blk (by decide)) (h.dict.map.ne_row hv) (fun k hk hn => row_row_ne hv h.dict.row (by decide) hn hk),
    h.rows.fr hf (fun k hk hn => row_row_ne hv h.rows.own (by decide) hn hk) (fun i hi k hk hn => ?_),
    h.refs.fr hf (fun k hk hn => row_row_ne hv h.refs.own (by decide) hn hk) (fun i hi k hk hn => row_row_ne hv (h.refs.each i hi) (by decide) hn hk), h.fr.trans hf (fun i hi hn => ?_)⟩
  · have h1 := hlt i hi k hk
    have h2 := own_ge hv hn
    omega
  · have h2 := own_ge hv hn
    omega
theorem BInv.append3B {H H' : Nat} {v v' : Value} {xs : List Int} {bs : List BD} (hv : IntRow wr H v xs) (hb : BRow wr H' v' bs) (hf : Fr (fun j => v.ownBlock = some j) wr w') : BRow w' H' v' bs :=
  hb.fr hf (fun k hk hn => row_row_ne hv hb (by decide) hn hk)
/-- Behind a row that is put to the rows. -/
theorem BInv.pushRow {v6 nv : Value} {xs : List Int} {H : Nat} (h : BInv w wr b r vt v8 v9 vals8 vals9 ts rows refs) (hn : IntRow wr H nv xs) (hH : w.heap.size ≤ H) (o : Obj)
    (hown : w'.ownsRow w.heap.size 48 1 v6 (rows.length + 1) (vals8 ++ [nv])) (hg : (wr.alloc o).grownBy w' v8.ownBlock) : BInv w w' b r vt v6 v9 (vals8 ++ [nv]) vals9 ts (rows ++ [xs]) refs := by
  have hf : Fr (fun j => v8.ownBlock = some j) wr w' := ((Fr.refl _ wr).alloc o).trans (Fr.of_grown hg) (fun _ _ h => h)
  have hv := h.rows.own
  refine ⟨h.res.fr hf (own_blk_ne hv h.res (by decide)), h.dict.fr hf (own_blk_ne hv h.dict.blk (by decide)) (h.dict.map.ne_row hv) (fun k hk hn => row_row_ne hv h.dict.row (by decide) hn hk),
    h.rows.push hn hH o hown hg,
    h.refs.fr hf (fun k hk hn => row_row_ne hv h.refs.own (by decide) hn hk) (fun i hi k hk hn => row_row_ne hv (h.refs.each i hi) (by decide) hn hk), h.fr.trans hf (fun i hi hn => ?_)⟩
  have h2 := own_ge hv hn
  omega
theorem BInv.pushRowB {w6 : World} {bs : List BD} {H : Nat} {v' : Value} (h : BInv w wr b r vt v8 v9 vals8 vals9 ts rows refs) (hb : BRow wr H v' bs) (o : Obj) (hg : (wr.alloc o).grownBy w6 v8.ownBlock) : BRow w6 H v' bs :=
  hb.fr (((Fr.refl _ wr).alloc o).trans (Fr.of_grown hg) (fun _ _ h => h) : Fr (fun j => v8.ownBlock = some j) wr w6) (fun k hk hn => row_row_ne h.rows.own hb (by decide) hn hk)
theorem BInv.pushRef {v6 nv : Value} {xs : List BD} {H : Nat} (h : BInv w wr b r vt v8 v9 vals8 vals9 ts rows refs) (hn : BRow wr H nv xs) (hH : w.heap.size ≤ H) (o : Obj)
    (hown : w'.ownsRow w.heap.size 126 1 v6 (refs.length + 1) (vals9 ++ [nv])) (hg : (wr.alloc o).grownBy w' v9.ownBlock) : BInv w w' b r vt v8 v6 vals8 (vals9 ++ [nv]) ts rows (refs ++ [xs]) := by
  have hf : Fr (fun j => v9.ownBlock = some j) wr w' := ((Fr.refl _ wr).alloc o).trans (Fr.of_grown hg) (fun _ _ h => h)
  have hv := h.refs.own
  refine ⟨h.res.fr hf (own_blk_ne hv h.res (by decide)), h.dict.fr hf (own_blk_ne hv h.dict.blk (by decide)) (h.dict.map.ne_row hv) (fun k hk hn => row_row_ne hv h.dict.row (by decide) hn hk),
    h.rows.fr hf (fun k hk hn => row_row_ne hv h.rows.own (by decide) hn hk) (fun i hi k hk hn => row_row_ne hv (h.rows.each i hi) (by decide) hn hk),
    h.refs.push hn hH o hown hg, h.fr.trans hf (fun i hi hn => ?_)⟩
  have h2 := own_ge hv hn
  omega
end
/-- The state of the inner loop. -/
structure BIn (w : World) (H b r : Nat) (v8 v9 : Value) (vals8 vals9 : List Value) (ts : List Tm) (rows : List (List Int)) (refs : List (List BD)) (d : D3) (k : Nat) (v12 v13 : Value) (wr : World) : Prop where
  inv : ∃ vt, BInv w wr b r vt v8 v9 vals8 vals9 (bRowTo ts d k).ts rows refs
  row : IntRow wr H v12 (bRowTo ts d k).xs
  ref : ∃ g c, v13 = .slice (some ⟨g, 0, none⟩) (bRowTo ts d k).bs.length c ∧ BRow wr w.heap.size v13 (bRowTo ts d k).bs
  ok : ∀ j, j < k → dOk (d.at j) = true
  le : H ≤ wr.heap.size
  lt : ∀ i, i < rows.length → ∀ k, (vals8.getD i undef).ownBlock = some k → k < H
  base : w.heap.size ≤ H
def BuildPost (w : World) (zs : List D3) (e : Ending) (w' : World) : Prop :=
  (e = .returned (.tuple #[.pointer none, .agg #[.slice none 0 0, .slice none 0 0], .slice none 0 0, .bool false]) ∧ Fr (fun _ => False) w w') ∨
  ∃ (n b r : Nat) (vt tv vf : Value) (vals : List Value), n ≤ 8 ∧ n ≤ zs.length ∧ e = .returned (.tuple #[.pointer (some ⟨b, 0, none⟩), tv, vf, .bool true]) ∧ IsDict w' w.heap.size b r vt (bTo zs n).ts 1000 ∧
    IsTable w' w.heap.size 3 tv [⟨#[97]⟩, ⟨#[98]⟩, ⟨#[99]⟩] (bTo zs n).rows ∧ RefsAt w' w.heap.size vf vals (bTo zs n).refs ∧ Fr (fun _ => False) w w' ∧ ∀ i, i < n → ∀ k, k < 3 → dOk ((zs.getD i default).at k) = true

end Go.Proofs.YtebddgdkndmpjaaGreatDoor
