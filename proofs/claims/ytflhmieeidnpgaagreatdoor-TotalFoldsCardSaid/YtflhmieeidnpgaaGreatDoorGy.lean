/- What is made of the input: the state of the walk. -/
import Derived.Test.YtflhmieeidnpgaaGreatDoorGx
import Derived.Deep.CutBlock
import Derived.Deep.RegionLawGrows
import Derived.Deep.Cut
import Derived.Deep.CutRange
import Derived.WalkKit
import Derived.WalkLawsBesides
import Derived.WalkSpells
import Derived.Deep.QuietTactic
import Derived.BigRegion
import Derived.BigQuiet
import Derived.Lib.Hide
import Derived.Outline
import Derived.Deep.AppendLies
import Derived.Deep.RegionLaw
import Derived.Deep.RegionWith
import Derived.Deep.RegionHeld3
import Derived.Deep.LoopGhost
import Derived.Deep.DeepFit
import Derived.Laws.ResultCell
import Derived.Laws.RangeAny
import Derived.Deep.MidRow
import Derived.StillTailTactics
import Derived.OpenShut
namespace Go.Proofs.YtflhmieeidnpgaaGreatDoor
set_option linter.unusedVariables false
open Go.RowKit Go

/-- The state of Build's loops. -/
structure BInv (w wr : World) (b r : Nat) (vt v8 v9 : Value) (vals8 vals9 : List Value) (ts : List Tm) (rows : List (List Int)) (refs : List (List BD)) : Prop where
  res : Blk wr w.heap.size 29 #[.slice none 0 0, .slice none 0 0]
  dict : IsDict wr w.heap.size b r vt ts 1000
  rows : RowsAt wr w.heap.size v8 vals8 rows
  refs : RefsAt wr w.heap.size v9 vals9 refs
  fr : Fr (fun _ => False) w wr
section
variable {w wr w' : World} {b r : Nat} {vt v8 v9 : Value} {vals8 vals9 : List Value} {ts : List Tm} {rows : List (List Int)} {refs : List (List BD)}
theorem BInv.frF (h : BInv w wr b r vt v8 v9 vals8 vals9 ts rows refs) (hf : Fr (fun _ => False) wr w') : BInv w w' b r vt v8 v9 vals8 vals9 ts rows refs :=
  ⟨h.res.fr hf (fun h => h), h.dict.frF hf, h.rows.frF hf, h.refs.frF hf, h.fr.trans' hf⟩
/-- Behind Put. -/
theorem BInv.put {vt' : Value} {ts' : List Tm} (h : BInv w wr b r vt v8 v9 vals8 vals9 ts rows refs) (hd : IsDict w' w.heap.size b r vt' ts' 1000) (hf : Fr (fun j => j = b ∨ j = r ∨ vt.ownBlock = some j) wr w') : BInv w w' b r vt' v8 v9 vals8 vals9 ts' rows refs := by
  refine ⟨h.res.fr hf (h.dict.farB h.res (by decide) (by decide)), hd, h.rows.fr hf (h.dict.far h.rows.own (by decide) (by decide)) (fun i hi => h.dict.far (h.rows.each i hi) (by decide) (by decide)),
    h.refs.fr hf (h.dict.far h.refs.own (by decide) (by decide)) (fun i hi => h.dict.far (h.refs.each i hi) (by decide) (by decide)), ?_⟩
  refine h.fr.trans hf (fun i hi hn => ?_)
  have h1 := h.dict.leb
  have h2 := h.dict.ler
  rcases hn with hn | hn | hn
  · omega
  · omega
  · have := (h.dict.row.lt i hn).1
    omega
theorem BInv.putI {vt' : Value} {ts' : List Tm} {v : Value} {xs : List Int} (h : BInv w wr b r vt v8 v9 vals8 vals9 ts rows refs) (hv : IntRow wr w.heap.size v xs) (hf : Fr (fun j => j = b ∨ j = r ∨ vt.ownBlock = some j) wr w') : IntRow w' w.heap.size v xs :=
  hv.fr hf (h.dict.far hv (by decide) (by decide))
theorem BInv.putB {vt' : Value} {ts' : List Tm} {v : Value} {xs : List BD} (h : BInv w wr b r vt v8 v9 vals8 vals9 ts rows refs) (hv : BRow wr w.heap.size v xs) (hf : Fr (fun j => j = b ∨ j = r ∨ vt.ownBlock = some j) wr w') : BRow w' w.heap.size v xs :=
  hv.fr hf (h.dict.far hv (by decide) (by decide))
end
theorem own_ge {w : World} {B e s n : Nat} {v : Value} {xs : List Value} (h : w.ownsRow B e s v n xs) {k : Nat} (hk : v.ownBlock = some k) : B ≤ k := (h.lt k hk).1
section
variable {w wr w' : World} {b r : Nat} {vt v8 v9 : Value} {vals8 vals9 : List Value} {ts : List Tm} {rows : List (List Int)} {refs : List (List BD)}
/-- Behind an append to a row of the call's own, of the blocks from H on. -/
theorem BInv.append3 {H : Nat} {v : Value} {xs : List Int} (h : BInv w wr b r vt v8 v9 vals8 vals9 ts rows refs) (hv : IntRow wr H v xs) (hH : w.heap.size ≤ H)
    (hlt : ∀ i, i < rows.length → ∀ k, (vals8.getD i undef).ownBlock = some k → k < H) (hf : Fr (fun j => v.ownBlock = some j) wr w') : BInv w w' b r vt v8 v9 vals8 vals9 ts rows refs := by
  refine ⟨h.res.fr hf (own_blk_ne hv h.res (by decide)), h.dict.fr hf (own_blk_ne hv h.dict.blk (by decide)) (h.dict.map.ne_row hv) (fun k hk hn => row_row_ne hv h.dict.row (by decide) hn hk),
    h.rows.fr hf (fun k hk hn => row_row_ne hv h.rows.own (by decide) hn hk) (fun i hi k hk hn => ?_),
    h.refs.fr hf (fun k hk hn => row_row_ne hv h.refs.own (by decide) hn hk) (fun i hi k hk hn => row_row_ne hv (h.refs.each i hi) (by decide) hn hk), h.fr.trans hf (fun i hi hn => ?_)⟩
  · have h1 := hlt i hi k hk
    have h2 := own_ge hv hn
    omega
  · have h2 := own_ge hv hn
    omega
theorem BInv.append3B {H H' : Nat} {v v' : Value} {xs : List Int} {bs : List BD} (hv : IntRow wr H v xs) (hb : BRow wr H' v' bs) (hf : Fr (fun j => v.ownBlock = some j) wr w') : BRow w' H' v' bs :=
  hb.fr hf (fun k hk hn => row_row_ne hv hb (by decide) hn hk)
/-- Behind a row that is put to the rows. -/
theorem BInv.pushRow {v6 nv : Value} {xs : List Int} {H : Nat} (h : BInv w wr b r vt v8 v9 vals8 vals9 ts rows refs) (hn : IntRow wr H nv xs) (hH : w.heap.size ≤ H) (o : Obj)
    (hown : w'.ownsRow w.heap.size 48 1 v6 (rows.length + 1) (vals8 ++ [nv])) (hg : (wr.alloc o).grownBy w' v8.ownBlock) : BInv w w' b r vt v6 v9 (vals8 ++ [nv]) vals9 ts (rows ++ [xs]) refs := by
  have hf : Fr (fun j => v8.ownBlock = some j) wr w' := ((Fr.refl _ wr).alloc o).trans (Fr.of_grown hg) (fun _ _ h => h)
  have hv := h.rows.own
  refine ⟨h.res.fr hf (own_blk_ne hv h.res (by decide)), h.dict.fr hf (own_blk_ne hv h.dict.blk (by decide)) (h.dict.map.ne_row hv) (fun k hk hn => row_row_ne hv h.dict.row (by decide) hn hk),
    h.rows.push hn hH o hown hg,
    h.refs.fr hf (fun k hk hn => row_row_ne hv h.refs.own (by decide) hn hk) (fun i hi k hk hn => row_row_ne hv (h.refs.each i hi) (by decide) hn hk), h.fr.trans hf (fun i hi hn => ?_)⟩
  have h2 := own_ge hv hn
  omega
theorem BInv.pushRowB {w6 : World} {bs : List BD} {H : Nat} {v' : Value} (h : BInv w wr b r vt v8 v9 vals8 vals9 ts rows refs) (hb : BRow wr H v' bs) (o : Obj) (hg : (wr.alloc o).grownBy w6 v8.ownBlock) : BRow w6 H v' bs :=
  hb.fr (((Fr.refl _ wr).alloc o).trans (Fr.of_grown hg) (fun _ _ h => h) : Fr (fun j => v8.ownBlock = some j) wr w6) (fun k hk hn => row_row_ne h.rows.own hb (by decide) hn hk)
theorem BInv.pushRef {v6 nv : Value} {xs : List BD} {H : Nat} (h : BInv w wr b r vt v8 v9 vals8 vals9 ts rows refs) (hn : BRow wr H nv xs) (hH : w.heap.size ≤ H) (o : Obj)
    (hown : w'.ownsRow w.heap.size 66 1 v6 (refs.length + 1) (vals9 ++ [nv])) (hg : (wr.alloc o).grownBy w' v9.ownBlock) : BInv w w' b r vt v8 v6 vals8 (vals9 ++ [nv]) ts rows (refs ++ [xs]) := by
  have hf : Fr (fun j => v9.ownBlock = some j) wr w' := ((Fr.refl _ wr).alloc o).trans (Fr.of_grown hg) (fun _ _ h => h)
  have hv := h.refs.own
  refine ⟨h.res.fr hf (own_blk_ne hv h.res (by decide)), h.dict.fr hf (own_blk_ne hv h.dict.blk (by decide)) (h.dict.map.ne_row hv) (fun k hk hn => row_row_ne hv h.dict.row (by decide) hn hk),
    h.rows.fr hf (fun k hk hn => row_row_ne hv h.rows.own (by decide) hn hk) (fun i hi k hk hn => row_row_ne hv (h.rows.each i hi) (by decide) hn hk),
    h.refs.push hn hH o hown hg, h.fr.trans hf (fun i hi hn => ?_)⟩
  have h2 := own_ge hv hn
  omega
end
/-- The state of the inner loop. -/
structure BIn (w : World) (H b r : Nat) (v8 v9 : Value) (vals8 vals9 : List Value) (ts : List Tm) (rows : List (List Int)) (refs : List (List BD)) (d : D3) (k : Nat) (v12 v13 : Value) (wr : World) : Prop where
  inv : ∃ vt, BInv w wr b r vt v8 v9 vals8 vals9 (bRowTo ts d k).ts rows refs
  row : IntRow wr H v12 (bRowTo ts d k).xs
  ref : ∃ g c, v13 = .slice (some ⟨g, 0, none⟩) (bRowTo ts d k).bs.length c ∧ BRow wr w.heap.size v13 (bRowTo ts d k).bs
  ok : ∀ j, j < k → dOk (d.at j) = true
  le : H ≤ wr.heap.size
  lt : ∀ i, i < rows.length → ∀ k, (vals8.getD i undef).ownBlock = some k → k < H
  base : w.heap.size ≤ H
def BuildPost (w : World) (zs : List D3) (e : Ending) (w' : World) : Prop :=
  (e = .returned (.tuple #[.pointer none, .agg #[.slice none 0 0, .slice none 0 0], .slice none 0 0, .bool false]) ∧ Fr (fun _ => False) w w') ∨
  ∃ (n b r : Nat) (vt tv vf : Value) (vals : List Value), n ≤ 8 ∧ n ≤ zs.length ∧ e = .returned (.tuple #[.pointer (some ⟨b, 0, none⟩), tv, vf, .bool true]) ∧ IsDict w' w.heap.size b r vt (bTo zs n).ts 1000 ∧
    IsTable w' w.heap.size tv [⟨#[97]⟩, ⟨#[98]⟩, ⟨#[99]⟩] (bTo zs n).rows ∧ RefsAt w' w.heap.size vf vals (bTo zs n).refs ∧ Fr (fun _ => False) w w' ∧ ∀ i, i < n → ∀ k, k < 3 → dOk ((zs.getD i default).at k) = true

end Go.Proofs.YtflhmieeidnpgaaGreatDoor
