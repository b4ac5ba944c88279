/- Texts of the proof, one behind the other: FyA, FyB, FyC, Rb, Rd, Re. -/
import Derived.Test.YtagchljgmjmlcaaGreatDoorXm
import Derived.Deep.CutBlock
import Derived.Deep.RegionLawGrows
import Derived.Deep.Cut
import Derived.Deep.CutRange
import Derived.WalkKit
import Derived.WalkLawsBesides
import Derived.WalkSpells
import Derived.Deep.QuietTactic
import Derived.BigRegion
import Derived.BigQuiet
import Derived.Lib.Hide
import Derived.Outline
import Derived.Deep.AppendLies
import Derived.Deep.RegionLaw
import Derived.Deep.RegionWith
import Derived.Deep.RegionHeld3
import Derived.Deep.LoopGhost
import Derived.Deep.DeepFit
import Derived.Laws.ResultCell
import Derived.Laws.RangeAny
import Derived.Deep.MidRow
import Derived.StillTailTactics
import Derived.OpenShut
namespace Go.Proofs.YtagchljgmjmlcaaGreatDoor
set_option linter.unusedVariables false
open Go.RowKit Go
set_option maxRecDepth 100000
set_option maxHeartbeats 40000000

/-- What the document reads: the term and the place behind; none: the place of what can't stand there. -/
def docR (rs : List Int) (p : Nat) : Option DT × Nat :=
 if peekOf rs p = 60 then ((iriR rs p).1.map (fun l => ⟨1, strL l, ⟨#[]⟩, ⟨#[]⟩⟩), (iriR rs p).2)
 else if peekOf rs p = 95 then
  (if peekOf rs (p + 1) = 58 then (some ⟨0, strL (part rs (p + 2) (wordE rs [95, 45] (p + 2))), ⟨#[]⟩, ⟨#[]⟩⟩, wordE rs [95, 45] (p + 2)) else (none, p + 1))
 else if peekOf rs p = 34 then
  (match quotR rs p with
   | (none, q) => (none, q)
   | (some l, q) => (if (tailR rs q).2.2.2 = true then some ⟨2, strL l, (tailR rs q).1, (tailR rs q).2.1⟩ else none, (tailR rs q).2.2.1))
 else (none, p)
/-- What the document's Read hands back. -/
def docV (rs : List Int) (p : Nat) : Value :=
 match docR rs p with
 | (none, q) => .tuple #[.agg #[.int .i64 0, .string ⟨#[]⟩, .string ⟨#[]⟩, .string ⟨#[]⟩], .int .i64 (q : Int), .int .i64 1]
 | (some x, q) => if rGood x = true then .tuple #[.agg x.cells, .int .i64 (q : Int), .int .i64 0] else .tuple #[.agg #[.int .i64 0, .string ⟨#[]⟩, .string ⟨#[]⟩, .string ⟨#[]⟩], .int .i64 (p : Int), .int .i64 3]
def ReadV (v : Value) (w : World) (e : Ending) (w' : World) : Prop := e = .returned v ∧ Fr (fun _ => False) w w'

/-- Behind the store of a quoted text. -/
def R34 (w : World) (g c : Nat) (rs : List Int) (str : ByteArray) (wx : World) : Prop :=
 Blk wx (w.heap.size + 1) 34 #[.int .i64 2, .string str, .string xString, .string ⟨#[]⟩] ∧ Blk wx w.heap.size 34 #[.int .i64 0, .string ⟨#[]⟩, .string ⟨#[]⟩, .string ⟨#[]⟩] ∧ Fr (fun j => w.heap.size ≤ j) w wx ∧ Ls wx g c rs
theorem inf52 : (Tryz.prog.info? 34).map (·.size) = some 4 := by kernel_rfl
def zero52 : List Value := [.int .i64 0, .string ⟨#[]⟩, .string ⟨#[]⟩, .string ⟨#[]⟩]
theorem one52 (k : Int) (a b c : ByteArray) : (#[.int .i64 k, .string a, .string b, .string c] : Array Value).all (·.oneCell') = true := all_oneCell_toArray (cs := [.int .i64 k, .string a, .string b, .string c]) (by
 intro v hv
 simp only [List.mem_cons, List.not_mem_nil, or_false] at hv
 rcases hv with rfl | rfl | rfl | rfl <;> rfl)

theorem rread_60 (g c p : Nat) (rs : List Int) (w : World) (hl : rs.length ≤ 8100) (hw : wt rs ≤ 8100) (hv : ∀ r, r ∈ rs → signR r = true) (hp : p ≤ rs.length) (h : Ls w g c rs) (h60 : peekOf rs p = 60) :
    Calls Tryz.prog 61 #[.slice (some ⟨g, 0, none⟩) rs.length c, .int .i64 (p : Int)] w (ReadV (docV rs p) w) := by
 have HST := Lib.hid (fun q ch w1 h0 h1 hq h2 => stands_any g c q ch rs w1 h0 h1 hq h2)
 have HS := Lib.hid h
 have HIR := Lib.hid (fun w1 h1 => riri2_any g c p rs w1 hl hv hp h1)
 have hf0 : Fr (fun _ => False) w ((w.alloc (.cells #[.int .i64 0, .string ⟨#[]⟩, .string ⟨#[]⟩, .string ⟨#[]⟩] 34)).alloc (.cells #[.int .i64 0, .string ⟨#[]⟩, .string ⟨#[]⟩, .string ⟨#[]⟩] 34)) := ((Fr.refl _ _).alloc _).alloc _
 have S1 := Lib.hid (fun ch h0 h1 => stands_any g c p ch rs _ h0 h1 (by omega) (h.frF hf0))
 have hb1 := (Blk.new w 34 #[.int .i64 0, .string ⟨#[]⟩, .string ⟨#[]⟩, .string ⟨#[]⟩]).alloc (.cells #[.int .i64 0, .string ⟨#[]⟩, .string ⟨#[]⟩, .string ⟨#[]⟩] 34)
 have hb2 := Blk.new (w.alloc (.cells #[.int .i64 0, .string ⟨#[]⟩, .string ⟨#[]⟩, .string ⟨#[]⟩] 34)) 34 #[.int .i64 0, .string ⟨#[]⟩, .string ⟨#[]⟩, .string ⟨#[]⟩]
 rw [show (w.alloc (.cells #[.int .i64 0, .string ⟨#[]⟩, .string ⟨#[]⟩, .string ⟨#[]⟩] 34)).heap.size = w.heap.size + 1 by simp] at hb2
 have HB1 := Lib.hid hb1
 have HB2 := Lib.hid hb2
 have HF0 := Lib.hid hf0
 have HGD := Lib.hid (fun (x : DT) w1 h1 h2 h3 h4 h5 => rgood_any x w1 h1 h2 h3 h4 h5)
 have HFI := Lib.hid (iriR_fits rs hv p hp)
 have HS0 := Lib.hid (h.frF hf0)
 clear h hf0 hb1 hb2
 obtain ⟨res, hres⟩ : ∃ x, x = docV rs p := ⟨_, rfl⟩
 rw [← hres]
 unfold docV docR at hres
 have HF0B := Lib.hid (HF0.out.mono (T := fun j => w.heap.size ≤ j) (fun _ _ h => h.elim))
 rw [if_pos h60] at hres
 have S60 := Lib.hid (S1.out 60 (by decide) (by decide))
 rw [h60] at S60
 have HRES := Lib.hid hres
 have HWT := Lib.hid (fun l e h => iriR_wt (rs := rs) (p := p) (l := l) (e := e) h)
 generalize iriR rs p = ir at *
 obtain ⟨io, ip⟩ := ir
 dsimp only at HIR
 obtain ⟨str, hstr⟩ : ∃ x, x = optS io := ⟨_, rfl⟩
 rw [← hstr] at HIR
 clear hres
 go_enter Tryz.func61, Tryz.ntmps61
 go_wp2_with fail
 refine S60.out.mono ?_
 rintro e w1 ⟨rfl, rfl⟩
 generalize ((w.alloc (.cells #[.int .i64 0, .string ⟨#[]⟩, .string ⟨#[]⟩, .string ⟨#[]⟩] 34)).alloc (.cells #[.int .i64 0, .string ⟨#[]⟩, .string ⟨#[]⟩, .string ⟨#[]⟩] 34)) = w0 at *
 have cTa : (w0).cell? ⟨w.heap.size + 1, 0, none⟩ = some (.int .i64 0) := HB2.out.cell 0
 have fTa := HB2.out.frozen 0
 have lTa := HB2.out.lt
 have hxa : Fr (fun j => j = w.heap.size + 1) (w0) ((w0).setCell ⟨w.heap.size + 1, 0, none⟩ (.int .i64 1)) := (Fr.refl (fun j => j = w.heap.size + 1) (w0)).setCell ⟨w.heap.size + 1, 0, none⟩ (fun _ => rfl) _
 have HTa := Lib.hid (HB2.out.set_ 0 (.int .i64 1))
 have HRa := Lib.hid (HB1.out.fr hxa (fun e => by omega))
 have HFa := Lib.hid (HF0B.out.trans hxa (fun j hj e => by omega))
 have HSa := Lib.hid (show Ls _ g c rs from ownsRow_fr HS0.out hxa (fun j hj e => own_blk_ne HS0.out HB2.out (by decide) (by rw [hj, e])))
 have HX := Lib.hid (HIR.out _ HSa.out)
 clear hxa
 go_wp2_with fail
 refine HX.out.mono ?_
 rintro e w2 ⟨rfl, hf2⟩
 have HT2 := Lib.hid (HTa.out.fr hf2 (fun h => h))
 have HR2 := Lib.hid (HRa.out.fr hf2 (fun h => h))
 have HF2 := Lib.hid (HFa.out.trans hf2 (fun _ _ h => h.elim))
 have HS2 := Lib.hid (HSa.out.frF hf2)
 clear hf2
 cases io with
 | none =>
  obtain rfl : str = ⟨#[]⟩ := hstr
  have cTb : (w2).cell? ⟨w.heap.size + 1, 1, none⟩ = some (.string ⟨#[]⟩) := HT2.out.cell 1
  have fTb := HT2.out.frozen 1
  have lTb := HT2.out.lt
  have hxb : Fr (fun j => j = w.heap.size + 1) (w2) ((w2).setCell ⟨w.heap.size + 1, 1, none⟩ (.string ⟨#[]⟩)) := (Fr.refl (fun j => j = w.heap.size + 1) (w2)).setCell ⟨w.heap.size + 1, 1, none⟩ (fun _ => rfl) _
  have HTb := Lib.hid (HT2.out.set_ 1 (.string ⟨#[]⟩))
  have HRb := Lib.hid (HR2.out.fr hxb (fun e => by omega))
  have HFb := Lib.hid (HF2.out.trans hxb (fun j hj e => by omega))
  have HSb := Lib.hid (show Ls _ g c rs from ownsRow_fr HS2.out hxb (fun j hj e => own_blk_ne HS2.out HT2.out (by decide) (by rw [hj, e])))
  have hr := HRES.out
  dsimp only [Option.map] at hr
  subst hr
  clear hxb
  have hst := Blk.setAll (vs := zero52) (old := zero52) HRb.out rfl
  have HTH := Lib.hid (Blk.there (cs := zero52) HRb.out (n := 4) rfl)
  have HST := Lib.hid hst.1
  have HFF := Lib.hid ((HFb.out.trans hst.2 (fun j hj e => by omega)).shut (Nat.le_refl _))
  have hl1 := HRb.out.lt
  unfold zero52 at HST HFF
  clear hst
  go_wp2_with (refine wpList_store_mid rfl 34 _ _ rfl _ _ _ rfl rfl HTH.out inf52 (one52 _ _ _ _) ?_)
  exact bodyPost_ret (v := .tuple #[.agg #[.int .i64 0, .string ⟨#[]⟩, .string ⟨#[]⟩, .string ⟨#[]⟩], .int .i64 (ip : Int), .int .i64 1]) (results_e3 rfl _ _ w.heap.size 34 _ (0, 0) _ rfl HST.out Tryz.underlying34 rfl (by kernel_rfl) _ _ rfl rfl) rfl ⟨rfl, HFF.out⟩
 | some l =>
  have cTb : (w2).cell? ⟨w.heap.size + 1, 1, none⟩ = some (.string ⟨#[]⟩) := HT2.out.cell 1
  have fTb := HT2.out.frozen 1
  have lTb := HT2.out.lt
  have hxb : Fr (fun j => j = w.heap.size + 1) (w2) ((w2).setCell ⟨w.heap.size + 1, 1, none⟩ (.string str)) := (Fr.refl (fun j => j = w.heap.size + 1) (w2)).setCell ⟨w.heap.size + 1, 1, none⟩ (fun _ => rfl) _
  have HTb := Lib.hid (HT2.out.set_ 1 (.string str))
  have HRb := Lib.hid (HR2.out.fr hxb (fun e => by omega))
  have HFb := Lib.hid (HF2.out.trans hxb (fun j hj e => by omega))
  have HSb := Lib.hid (show Ls _ g c rs from ownsRow_fr HS2.out hxb (fun j hj e => own_blk_ne HS2.out HT2.out (by decide) (by rw [hj, e])))
  have hr := HRES.out
  dsimp only [Option.map] at hr
  have hll := HWT.out l ip rfl
  have hss := strL_wt l
  have hse : str = strL l := hstr
  rw [← hse] at hr hss
  clear hxb hstr hse
  have HTZ := Lib.hid (show Blk ((w2).setCell ⟨w.heap.size + 1, 1, none⟩ (.string str)) (w.heap.size + 1) 34 ([.int .i64 1, .string str, .string ⟨#[]⟩, .string ⟨#[]⟩] : List Value).toArray from HTb.out)
  have HRG := Lib.hid (blkRange (cs := [.int .i64 1, .string str, .string ⟨#[]⟩, .string ⟨#[]⟩]) HTZ.out)
  have HGX := Lib.hid (HGD.out ⟨1, str, ⟨#[]⟩, ⟨#[]⟩⟩ ((w2).setCell ⟨w.heap.size + 1, 1, none⟩ (.string str)) (by show (0 : Int) ≤ 1; decide) (by show (1 : Int) ≤ 2; decide) (by show str.size ≤ 16384; omega) size0 size0)
  generalize rGood ⟨1, str, ⟨#[]⟩, ⟨#[]⟩⟩ = gb at *
  have HRS := Lib.hid hr
  clear hr
  go_wp2_with (refine wpList_load_mid rfl 34 _ rfl (w.heap.size + 1) 0 rfl _ _ HRG.out Tryz.underlying34 rfl inf52 ?_)
  refine HGX.out.mono ?_
  rintro e w9 ⟨rfl, hf9⟩
  have HT9 := Lib.hid (HTZ.out.fr hf9 (fun h => h))
  have HR9 := Lib.hid (HRb.out.fr hf9 (fun h => h))
  have HF9 := Lib.hid (HFb.out.trans hf9 (fun _ _ h => h.elim))
  clear hf9
  have hl1 := HR9.out.lt
  have HTH := Lib.hid (Blk.there (cs := zero52) HR9.out (n := 4) rfl)
  cases gb with
  | false =>
   have hr := HRS.out
   rw [if_neg Bool.false_ne_true] at hr
   subst hr
   have hst := Blk.setAll (vs := zero52) (old := zero52) HR9.out rfl
   have HST := Lib.hid hst.1
   have HFF := Lib.hid ((HF9.out.trans hst.2 (fun j hj e => by omega)).shut (Nat.le_refl _))
   unfold zero52 at HST HFF
   clear hst
   go_wp2_with (refine wpList_store_mid rfl 34 _ _ rfl _ _ _ rfl rfl HTH.out inf52 (one52 _ _ _ _) ?_)
   exact bodyPost_ret (v := .tuple #[.agg #[.int .i64 0, .string ⟨#[]⟩, .string ⟨#[]⟩, .string ⟨#[]⟩], .int .i64 (p : Int), .int .i64 3]) (results_e3 rfl _ _ w.heap.size 34 _ (0, 0) _ rfl HST.out Tryz.underlying34 rfl (by kernel_rfl) _ _ rfl rfl) rfl ⟨rfl, HFF.out⟩
  | true =>
   have hr := HRS.out
   rw [if_pos rfl] at hr
   subst hr
   have HRG9 := Lib.hid (blkRange (cs := [.int .i64 1, .string str, .string ⟨#[]⟩, .string ⟨#[]⟩]) HT9.out)
   have hst := Blk.setAll (vs := [.int .i64 1, .string str, .string ⟨#[]⟩, .string ⟨#[]⟩]) (old := zero52) HR9.out rfl
   have HST := Lib.hid hst.1
   have HFF := Lib.hid ((HF9.out.trans hst.2 (fun j hj e => by omega)).shut (Nat.le_refl _))
   clear hst
   go_wp2_with (first | refine wpList_load_mid rfl 34 _ rfl (w.heap.size + 1) 0 rfl _ _ HRG9.out Tryz.underlying34 rfl inf52 ?_ | refine wpList_store_mid rfl 34 _ _ rfl _ _ _ rfl rfl HTH.out inf52 (one52 _ _ _ _) ?_)
   exact bodyPost_ret (v := .tuple #[.agg #[.int .i64 1, .string str, .string ⟨#[]⟩, .string ⟨#[]⟩], .int .i64 (ip : Int), .int .i64 0]) (results_e3 rfl _ _ w.heap.size 34 _ (0, 0) _ rfl HST.out Tryz.underlying34 rfl (by kernel_rfl) _ _ rfl rfl) rfl ⟨rfl, HFF.out⟩

theorem rread_95 (g c p : Nat) (rs : List Int) (w : World) (hl : rs.length ≤ 8100) (hw : wt rs ≤ 8100) (hv : ∀ r, r ∈ rs → signR r = true) (hp : p ≤ rs.length) (h : Ls w g c rs) (h60 : ¬ peekOf rs p = 60) (h95 : peekOf rs p = 95) :
    Calls Tryz.prog 61 #[.slice (some ⟨g, 0, none⟩) rs.length c, .int .i64 (p : Int)] w (ReadV (docV rs p) w) := by
 have HST := Lib.hid (fun q ch w1 h0 h1 hq h2 => stands_any g c q ch rs w1 h0 h1 hq h2)
 have HS := Lib.hid h
 have HIR := Lib.hid (fun w1 h1 => riri2_any g c p rs w1 hl hv hp h1)
 have hf0 : Fr (fun _ => False) w ((w.alloc (.cells #[.int .i64 0, .string ⟨#[]⟩, .string ⟨#[]⟩, .string ⟨#[]⟩] 34)).alloc (.cells #[.int .i64 0, .string ⟨#[]⟩, .string ⟨#[]⟩, .string ⟨#[]⟩] 34)) := ((Fr.refl _ _).alloc _).alloc _
 have S1 := Lib.hid (fun ch h0 h1 => stands_any g c p ch rs _ h0 h1 (by omega) (h.frF hf0))
 have hb1 := (Blk.new w 34 #[.int .i64 0, .string ⟨#[]⟩, .string ⟨#[]⟩, .string ⟨#[]⟩]).alloc (.cells #[.int .i64 0, .string ⟨#[]⟩, .string ⟨#[]⟩, .string ⟨#[]⟩] 34)
 have hb2 := Blk.new (w.alloc (.cells #[.int .i64 0, .string ⟨#[]⟩, .string ⟨#[]⟩, .string ⟨#[]⟩] 34)) 34 #[.int .i64 0, .string ⟨#[]⟩, .string ⟨#[]⟩, .string ⟨#[]⟩]
 rw [show (w.alloc (.cells #[.int .i64 0, .string ⟨#[]⟩, .string ⟨#[]⟩, .string ⟨#[]⟩] 34)).heap.size = w.heap.size + 1 by simp] at hb2
 have HB1 := Lib.hid hb1
 have HB2 := Lib.hid hb2
 have HF0 := Lib.hid hf0
 have HGD := Lib.hid (fun (x : DT) w1 h1 h2 h3 h4 h5 => rgood_any x w1 h1 h2 h3 h4 h5)
 have HFI := Lib.hid (iriR_fits rs hv p hp)
 have HS0 := Lib.hid (h.frF hf0)
 clear h hf0 hb1 hb2
 obtain ⟨res, hres⟩ : ∃ x, x = docV rs p := ⟨_, rfl⟩
 rw [← hres]
 unfold docV docR at hres
 have HF0B := Lib.hid (HF0.out.mono (T := fun j => w.heap.size ≤ j) (fun _ _ h => h.elim))
 rw [if_neg h60] at hres
 have S60 := Lib.hid (S1.out 60 (by decide) (by decide))
 rw [decide_eq_false h60] at S60
 have S95 := Lib.hid (S1.out 95 (by decide) (by decide))
 have S34 := Lib.hid (S1.out 34 (by decide) (by decide))
 rw [if_pos h95] at hres
 rw [h95] at S95
 have hplt := peek_lt (rs := rs) (p := p) (by omega)
 have HSW0 := Lib.hid (fun w1 h1 => HST.out (p + 1) 58 w1 (by decide) (by decide) (by omega) h1)
 by_cases h58 : peekOf rs (p + 1) = 58
 · rw [if_pos h58] at hres
   rw [h58] at HSW0
   have hpl2 := peek_lt (rs := rs) (p := p + 1) (by omega)
   have HWD := Lib.hid (fun w1 h1 => rword_any g c (p + 2) true rs w1 hl hv hpl2 h1)
   rw [if_pos rfl] at HWD
   have hss := strL_wt (part rs (p + 2) (wordE rs [95, 45] (p + 2)))
   have hpz := wt_part rs (p + 2) (wordE rs [95, 45] (p + 2))
   generalize wordE rs [95, 45] (p + 2) = q at *
   generalize strL (part rs (p + 2) q) = str at *
   have HRES := Lib.hid hres
   clear hres
   go_enter Tryz.func61, Tryz.ntmps61
   go_wp2_with fail
   refine S60.out.mono ?_
   rintro e w1 ⟨rfl, rfl⟩
   generalize ((w.alloc (.cells #[.int .i64 0, .string ⟨#[]⟩, .string ⟨#[]⟩, .string ⟨#[]⟩] 34)).alloc (.cells #[.int .i64 0, .string ⟨#[]⟩, .string ⟨#[]⟩, .string ⟨#[]⟩] 34)) = w0 at *
   go_wp2_with fail
   refine S95.out.mono ?_
   rintro e w1 ⟨rfl, rfl⟩
   have HX := Lib.hid (HSW0.out w0 HS0.out)
   go_wp2_with fail
   refine HX.out.mono ?_
   rintro e w1 ⟨rfl, rfl⟩
   have HX2 := Lib.hid (HWD.out w0 HS0.out)
   go_wp2_with fail
   refine HX2.out.mono ?_
   rintro e w2 ⟨rfl, hf2⟩
   have HT2 := Lib.hid (HB2.out.fr hf2 (fun h => h))
   have HR2 := Lib.hid (HB1.out.fr hf2 (fun h => h))
   have HF2 := Lib.hid (HF0B.out.trans hf2 (fun _ _ h => h.elim))
   have HS2 := Lib.hid (HS0.out.frF hf2)
   clear hf2
   have cTb : (w2).cell? ⟨w.heap.size + 1, 1, none⟩ = some (.string ⟨#[]⟩) := HT2.out.cell 1
   have fTb := HT2.out.frozen 1
   have lTb := HT2.out.lt
   have hxb : Fr (fun j => j = w.heap.size + 1) (w2) ((w2).setCell ⟨w.heap.size + 1, 1, none⟩ (.string str)) := (Fr.refl (fun j => j = w.heap.size + 1) (w2)).setCell ⟨w.heap.size + 1, 1, none⟩ (fun _ => rfl) _
   have HTb := Lib.hid (HT2.out.set_ 1 (.string str))
   have HRb := Lib.hid (HR2.out.fr hxb (fun e => by omega))
   have HFb := Lib.hid (HF2.out.trans hxb (fun j hj e => by omega))
   have HSb := Lib.hid (show Ls _ g c rs from ownsRow_fr HS2.out hxb (fun j hj e => own_blk_ne HS2.out HT2.out (by decide) (by rw [hj, e])))
   clear hxb
   have hr := HRES.out
   have HTZ := Lib.hid (show Blk ((w2).setCell ⟨w.heap.size + 1, 1, none⟩ (.string str)) (w.heap.size + 1) 34 ([.int .i64 0, .string str, .string ⟨#[]⟩, .string ⟨#[]⟩] : List Value).toArray from HTb.out)
   have HRG := Lib.hid (blkRange (cs := [.int .i64 0, .string str, .string ⟨#[]⟩, .string ⟨#[]⟩]) HTZ.out)
   have HGX := Lib.hid (HGD.out ⟨0, str, ⟨#[]⟩, ⟨#[]⟩⟩ ((w2).setCell ⟨w.heap.size + 1, 1, none⟩ (.string str)) (by show (0 : Int) ≤ 0; decide) (by show (0 : Int) ≤ 2; decide) (by show str.size ≤ 16384; omega) size0 size0)
   generalize rGood ⟨0, str, ⟨#[]⟩, ⟨#[]⟩⟩ = gb at *
   have HRS := Lib.hid hr
   clear hr
   go_wp2_with (refine wpList_load_mid rfl 34 _ rfl (w.heap.size + 1) 0 rfl _ _ HRG.out Tryz.underlying34 rfl inf52 ?_)
   refine HGX.out.mono ?_
   rintro e w9 ⟨rfl, hf9⟩
   have HT9 := Lib.hid (HTZ.out.fr hf9 (fun h => h))
   have HR9 := Lib.hid (HRb.out.fr hf9 (fun h => h))
   have HF9 := Lib.hid (HFb.out.trans hf9 (fun _ _ h => h.elim))
   clear hf9
   have hl1 := HR9.out.lt
   have HTH := Lib.hid (Blk.there (cs := zero52) HR9.out (n := 4) rfl)
   cases gb with
   | false =>
    have hr := HRS.out
    rw [if_neg Bool.false_ne_true] at hr
    subst hr
    have hst := Blk.setAll (vs := zero52) (old := zero52) HR9.out rfl
    have HST := Lib.hid hst.1
    have HFF := Lib.hid ((HF9.out.trans hst.2 (fun j hj e => by omega)).shut (Nat.le_refl _))
    unfold zero52 at HST HFF
    clear hst
    go_wp2_with (refine wpList_store_mid rfl 34 _ _ rfl _ _ _ rfl rfl HTH.out inf52 (one52 _ _ _ _) ?_)
    exact bodyPost_ret (v := .tuple #[.agg #[.int .i64 0, .string ⟨#[]⟩, .string ⟨#[]⟩, .string ⟨#[]⟩], .int .i64 (p : Int), .int .i64 3]) (results_e3 rfl _ _ w.heap.size 34 _ (0, 0) _ rfl HST.out Tryz.underlying34 rfl (by kernel_rfl) _ _ rfl rfl) rfl ⟨rfl, HFF.out⟩
   | true =>
    have hr := HRS.out
    rw [if_pos rfl] at hr
    subst hr
    have HRG9 := Lib.hid (blkRange (cs := [.int .i64 0, .string str, .string ⟨#[]⟩, .string ⟨#[]⟩]) HT9.out)
    have hst := Blk.setAll (vs := [.int .i64 0, .string str, .string ⟨#[]⟩, .string ⟨#[]⟩]) (old := zero52) HR9.out rfl
    have HST := Lib.hid hst.1
    have HFF := Lib.hid ((HF9.out.trans hst.2 (fun j hj e => by omega)).shut (Nat.le_refl _))
    clear hst
    go_wp2_with (first | refine wpList_load_mid rfl 34 _ rfl (w.heap.size + 1) 0 rfl _ _ HRG9.out Tryz.underlying34 rfl inf52 ?_ | refine wpList_store_mid rfl 34 _ _ rfl _ _ _ rfl rfl HTH.out inf52 (one52 _ _ _ _) ?_)
    exact bodyPost_ret (v := .tuple #[.agg #[.int .i64 0, .string str, .string ⟨#[]⟩, .string ⟨#[]⟩], .int .i64 (q : Int), .int .i64 0]) (results_e3 rfl _ _ w.heap.size 34 _ (0, 0) _ rfl HST.out Tryz.underlying34 rfl (by kernel_rfl) _ _ rfl rfl) rfl ⟨rfl, HFF.out⟩
 · rw [if_neg h58] at hres
   rw [decide_eq_false h58] at HSW0
   have hr := hres
   dsimp only at hr
   clear hres
   subst hr
   go_enter Tryz.func61, Tryz.ntmps61
   go_wp2_with fail
   refine S60.out.mono ?_
   rintro e w1 ⟨rfl, rfl⟩
   generalize ((w.alloc (.cells #[.int .i64 0, .string ⟨#[]⟩, .string ⟨#[]⟩, .string ⟨#[]⟩] 34)).alloc (.cells #[.int .i64 0, .string ⟨#[]⟩, .string ⟨#[]⟩, .string ⟨#[]⟩] 34)) = w0 at *
   go_wp2_with fail
   refine S95.out.mono ?_
   rintro e w1 ⟨rfl, rfl⟩
   have HX := Lib.hid (HSW0.out w0 HS0.out)
   go_wp2_with fail
   refine HX.out.mono ?_
   rintro e w1 ⟨rfl, rfl⟩
   have hst := Blk.setAll (vs := zero52) (old := zero52) HB1.out rfl
   have HTH := Lib.hid (Blk.there (cs := zero52) HB1.out (n := 4) rfl)
   have HST := Lib.hid hst.1
   have HFF := Lib.hid ((HF0B.out.trans hst.2 (fun j hj e => by omega)).shut (Nat.le_refl _))
   have hl1 := HB1.out.lt
   unfold zero52 at HST HFF
   clear hst
   go_wp2_with (refine wpList_store_mid rfl 34 _ _ rfl _ _ _ rfl rfl HTH.out inf52 (one52 _ _ _ _) ?_)
   exact bodyPost_ret (v := .tuple #[.agg #[.int .i64 0, .string ⟨#[]⟩, .string ⟨#[]⟩, .string ⟨#[]⟩], .int .i64 ((p : Int) + 1), .int .i64 1]) (results_e3 rfl _ _ w.heap.size 34 _ (0, 0) _ rfl HST.out Tryz.underlying34 rfl (by kernel_rfl) _ _ rfl rfl) rfl ⟨rfl, HFF.out⟩

theorem rread_no (g c p : Nat) (rs : List Int) (w : World) (hl : rs.length ≤ 8100) (hw : wt rs ≤ 8100) (hv : ∀ r, r ∈ rs → signR r = true) (hp : p ≤ rs.length) (h : Ls w g c rs) (h60 : ¬ peekOf rs p = 60) (h95 : ¬ peekOf rs p = 95) (h34 : ¬ peekOf rs p = 34) :
    Calls Tryz.prog 61 #[.slice (some ⟨g, 0, none⟩) rs.length c, .int .i64 (p : Int)] w (ReadV (docV rs p) w) := by
 have HST := Lib.hid (fun q ch w1 h0 h1 hq h2 => stands_any g c q ch rs w1 h0 h1 hq h2)
 have HS := Lib.hid h
 have HIR := Lib.hid (fun w1 h1 => riri2_any g c p rs w1 hl hv hp h1)
 have hf0 : Fr (fun _ => False) w ((w.alloc (.cells #[.int .i64 0, .string ⟨#[]⟩, .string ⟨#[]⟩, .string ⟨#[]⟩] 34)).alloc (.cells #[.int .i64 0, .string ⟨#[]⟩, .string ⟨#[]⟩, .string ⟨#[]⟩] 34)) := ((Fr.refl _ _).alloc _).alloc _
 have S1 := Lib.hid (fun ch h0 h1 => stands_any g c p ch rs _ h0 h1 (by omega) (h.frF hf0))
 have hb1 := (Blk.new w 34 #[.int .i64 0, .string ⟨#[]⟩, .string ⟨#[]⟩, .string ⟨#[]⟩]).alloc (.cells #[.int .i64 0, .string ⟨#[]⟩, .string ⟨#[]⟩, .string ⟨#[]⟩] 34)
 have hb2 := Blk.new (w.alloc (.cells #[.int .i64 0, .string ⟨#[]⟩, .string ⟨#[]⟩, .string ⟨#[]⟩] 34)) 34 #[.int .i64 0, .string ⟨#[]⟩, .string ⟨#[]⟩, .string ⟨#[]⟩]
 rw [show (w.alloc (.cells #[.int .i64 0, .string ⟨#[]⟩, .string ⟨#[]⟩, .string ⟨#[]⟩] 34)).heap.size = w.heap.size + 1 by simp] at hb2
 have HB1 := Lib.hid hb1
 have HB2 := Lib.hid hb2
 have HF0 := Lib.hid hf0
 have HGD := Lib.hid (fun (x : DT) w1 h1 h2 h3 h4 h5 => rgood_any x w1 h1 h2 h3 h4 h5)
 have HFI := Lib.hid (iriR_fits rs hv p hp)
 have HS0 := Lib.hid (h.frF hf0)
 clear h hf0 hb1 hb2
 obtain ⟨res, hres⟩ : ∃ x, x = docV rs p := ⟨_, rfl⟩
 rw [← hres]
 unfold docV docR at hres
 have HF0B := Lib.hid (HF0.out.mono (T := fun j => w.heap.size ≤ j) (fun _ _ h => h.elim))
 rw [if_neg h60] at hres
 have S60 := Lib.hid (S1.out 60 (by decide) (by decide))
 rw [decide_eq_false h60] at S60
 have S95 := Lib.hid (S1.out 95 (by decide) (by decide))
 have S34 := Lib.hid (S1.out 34 (by decide) (by decide))
 rw [if_neg h95] at hres
 rw [decide_eq_false h95] at S95
 rw [if_neg h34] at hres
 rw [decide_eq_false h34] at S34
 have hr := hres
 dsimp only at hr
 clear hres
 subst hr
 go_enter Tryz.func61, Tryz.ntmps61
 go_wp2_with fail
 refine S60.out.mono ?_
 rintro e w1 ⟨rfl, rfl⟩
 generalize ((w.alloc (.cells #[.int .i64 0, .string ⟨#[]⟩, .string ⟨#[]⟩, .string ⟨#[]⟩] 34)).alloc (.cells #[.int .i64 0, .string ⟨#[]⟩, .string ⟨#[]⟩, .string ⟨#[]⟩] 34)) = w0 at *
 go_wp2_with fail
 refine S95.out.mono ?_
 rintro e w1 ⟨rfl, rfl⟩
 go_wp2_with fail
 refine S34.out.mono ?_
 rintro e w1 ⟨rfl, rfl⟩
 have hst := Blk.setAll (vs := zero52) (old := zero52) HB1.out rfl
 have HTH := Lib.hid (Blk.there (cs := zero52) HB1.out (n := 4) rfl)
 have HST := Lib.hid hst.1
 have HFF := Lib.hid ((HF0B.out.trans hst.2 (fun j hj e => by omega)).shut (Nat.le_refl _))
 have hl1 := HB1.out.lt
 unfold zero52 at HST HFF
 clear hst
 go_wp2_with (refine wpList_store_mid rfl 34 _ _ rfl _ _ _ rfl rfl HTH.out inf52 (one52 _ _ _ _) ?_)
 exact bodyPost_ret (v := .tuple #[.agg #[.int .i64 0, .string ⟨#[]⟩, .string ⟨#[]⟩, .string ⟨#[]⟩], .int .i64 (p : Int), .int .i64 1]) (results_e3 rfl _ _ w.heap.size 34 _ (0, 0) _ rfl HST.out Tryz.underlying34 rfl (by kernel_rfl) _ _ rfl rfl) rfl ⟨rfl, HFF.out⟩

theorem rread_34a (g c p : Nat) (rs : List Int) (w : World) (hl : rs.length ≤ 8100) (hw : wt rs ≤ 8100) (hv : ∀ r, r ∈ rs → signR r = true) (hp : p ≤ rs.length) (h : Ls w g c rs) (h60 : ¬ peekOf rs p = 60) (h95 : ¬ peekOf rs p = 95) (h34 : peekOf rs p = 34) (hq : (quotR rs p).1 = none ∨ (peekOf rs (quotR rs p).2 = 94 ∧ peekOf rs ((quotR rs p).2 + 1) = 94)) :
    Calls Tryz.prog 61 #[.slice (some ⟨g, 0, none⟩) rs.length c, .int .i64 (p : Int)] w (ReadV (docV rs p) w) := by
 have HST := Lib.hid (fun q ch w1 h0 h1 hq h2 => stands_any g c q ch rs w1 h0 h1 hq h2)
 have HS := Lib.hid h
 have HIR := Lib.hid (fun w1 h1 => riri2_any g c p rs w1 hl hv hp h1)
 have hf0 : Fr (fun _ => False) w ((w.alloc (.cells #[.int .i64 0, .string ⟨#[]⟩, .string ⟨#[]⟩, .string ⟨#[]⟩] 34)).alloc (.cells #[.int .i64 0, .string ⟨#[]⟩, .string ⟨#[]⟩, .string ⟨#[]⟩] 34)) := ((Fr.refl _ _).alloc _).alloc _
 have S1 := Lib.hid (fun ch h0 h1 => stands_any g c p ch rs _ h0 h1 (by omega) (h.frF hf0))
 have hb1 := (Blk.new w 34 #[.int .i64 0, .string ⟨#[]⟩, .string ⟨#[]⟩, .string ⟨#[]⟩]).alloc (.cells #[.int .i64 0, .string ⟨#[]⟩, .string ⟨#[]⟩, .string ⟨#[]⟩] 34)
 have hb2 := Blk.new (w.alloc (.cells #[.int .i64 0, .string ⟨#[]⟩, .string ⟨#[]⟩, .string ⟨#[]⟩] 34)) 34 #[.int .i64 0, .string ⟨#[]⟩, .string ⟨#[]⟩, .string ⟨#[]⟩]
 rw [show (w.alloc (.cells #[.int .i64 0, .string ⟨#[]⟩, .string ⟨#[]⟩, .string ⟨#[]⟩] 34)).heap.size = w.heap.size + 1 by simp] at hb2
 have HB1 := Lib.hid hb1
 have HB2 := Lib.hid hb2
 have HF0 := Lib.hid hf0
 have HGD := Lib.hid (fun (x : DT) w1 h1 h2 h3 h4 h5 => rgood_any x w1 h1 h2 h3 h4 h5)
 have HFI := Lib.hid (iriR_fits rs hv p hp)
 have HS0 := Lib.hid (h.frF hf0)
 clear h hf0 hb1 hb2
 obtain ⟨res, hres⟩ : ∃ x, x = docV rs p := ⟨_, rfl⟩
 rw [← hres]
 unfold docV docR at hres
 have HF0B := Lib.hid (HF0.out.mono (T := fun j => w.heap.size ≤ j) (fun _ _ h => h.elim))
 rw [if_neg h60] at hres
 have S60 := Lib.hid (S1.out 60 (by decide) (by decide))
 rw [decide_eq_false h60] at S60
 have S95 := Lib.hid (S1.out 95 (by decide) (by decide))
 have S34 := Lib.hid (S1.out 34 (by decide) (by decide))
 rw [if_neg h95] at hres
 rw [decide_eq_false h95] at S95
 rw [if_pos h34] at hres
 rw [h34] at S34
 have hqf := quotR_fits rs hv p hp
 have HQ := Lib.hid (fun w1 h1 => rquoted_any g c p rs w1 hl hv hp h1)
 have hqw := fun l e h => quotR_wt (rs := rs) hv (p := p) (l := l) (e := e) h
 generalize quotR rs p = qr at *
 obtain ⟨qo, qp⟩ := qr
 have HQQ := Lib.hid hq
 clear hq
 have hqp := hqf.2
 dsimp only at hqp
 unfold RQPost at HQ
 dsimp only at HQ
 have hol : (outOf qo).length ≤ rs.length := by
  cases qo with
  | none => exact Nat.zero_le _
  | some l => have h1 := (hqf.1 l rfl).1; have h2 : ([] : List Int).length = 0 := rfl; show l.length ≤ _; omega
 have hos : ∀ x, x ∈ outOf qo → signR x = true := by
  cases qo with
  | none => exact fun x hx => (by cases hx)
  | some l => exact (hqf.1 l rfl).2
 have HXT := Lib.hid (fun B A1 c1 w1 h1 => rtext_any B (outOf qo).length c1 A1 (outOf qo) w1 rfl (by omega) hos h1)
 have hsz : (strL (outOf qo)).size ≤ 16384 := by
  cases qo with
  | none => exact Nat.zero_le _
  | some l => have h1 := hqw l qp rfl; have h2 := strL_wt l; show (strL l).size ≤ 16384; omega
 clear hqw
 obtain ⟨str, hstr⟩ : ∃ x, x = strL (outOf qo) := ⟨_, rfl⟩
 rw [← hstr] at HXT hsz
 have HSTR := Lib.hid hstr
 have HRES := Lib.hid hres
 have HSZ := Lib.hid hsz
 have HQP := Lib.hid hqp
 clear hres hstr hos hol hsz hqf hqp
 go_enter Tryz.func61, Tryz.ntmps61
 go_wp2_with fail
 refine S60.out.mono ?_
 rintro e w1 ⟨rfl, rfl⟩
 generalize ((w.alloc (.cells #[.int .i64 0, .string ⟨#[]⟩, .string ⟨#[]⟩, .string ⟨#[]⟩] 34)).alloc (.cells #[.int .i64 0, .string ⟨#[]⟩, .string ⟨#[]⟩, .string ⟨#[]⟩] 34)) = w0 at *
 go_wp2_with fail
 refine S95.out.mono ?_
 rintro e w1 ⟨rfl, rfl⟩
 go_wp2_with fail
 refine S34.out.mono ?_
 rintro e w1 ⟨rfl, rfl⟩
 have HX := Lib.hid (HQ.out w0 HS0.out)
 generalize hon : (outOf qo).length = on at *
 go_wp2_with fail
 refine HX.out.mono ?_
 rintro e w2 ⟨⟨QA, qc, rfl, hqrow⟩, hf2⟩
 have HT2 := Lib.hid (HB2.out.fr hf2 (fun h => h))
 have HR2 := Lib.hid (HB1.out.fr hf2 (fun h => h))
 have HF2 := Lib.hid (HF0B.out.trans hf2 (fun _ _ h => h.elim))
 have HS2 := Lib.hid (HS0.out.frF hf2)
 have HX2 := Lib.hid (HXT.out _ QA qc w2 hqrow)
 clear hf2 hqrow
 go_upto_region 13 with (fail)
 go_cut [] from 56 to 58 (fun wx => R34 w g c rs str wx)
 case first =>
  go_wp2_with fail
  refine HX2.out.mono ?_
  rintro e w3 ⟨rfl, hf3⟩
  have HT3 := Lib.hid (HT2.out.fr hf3 (fun h => h))
  have HR3 := Lib.hid (HR2.out.fr hf3 (fun h => h))
  have HF3 := Lib.hid (HF2.out.trans hf3 (fun _ _ h => h.elim))
  have HS3 := Lib.hid (HS2.out.frF hf3)
  clear hf3
  have HTHt := Lib.hid (Blk.there (cs := zero52) HT3.out (n := 4) rfl)
  have hst4 := Blk.setAll (vs := [.int .i64 2, .string str, .string xString, .string ⟨#[]⟩]) (old := zero52) HT3.out rfl
  have hlt3 := HT3.out.lt
  have HT4 := Lib.hid hst4.1
  have HR4 := Lib.hid (HR3.out.fr hst4.2 (fun e => by omega))
  have HF4 := Lib.hid (HF3.out.trans hst4.2 (fun j hj e => by omega))
  have HS4 := Lib.hid (show Ls _ g c rs from ownsRow_fr HS3.out hst4.2 (fun j hj e => own_blk_ne HS3.out HT3.out (by decide) (by rw [hj, e])))
  clear hst4
  go_wp2_with (refine wpList_store_mid rfl 34 _ _ rfl (w.heap.size + 1) 0 #[.int .i64 2, .string str, .string xString, .string ⟨#[]⟩] rfl rfl HTHt.out inf52 (one52 2 str xString ⟨#[]⟩) ?_)
  go_meet
  exact ⟨HT4.out, HR4.out, HF4.out, HS4.out⟩
 case rest =>
  obtain ⟨hT4, hR4, hF4, hS4⟩ := hcut
  have HT4 := Lib.hid (show Blk wc (w.heap.size + 1) 34 ([.int .i64 2, .string str, .string xString, .string ⟨#[]⟩] : List Value).toArray from hT4)
  have HR4 := Lib.hid (show Blk wc w.heap.size 34 zero52.toArray from hR4)
  have HF4 := Lib.hid hF4
  have HS4 := Lib.hid hS4
  clear hT4 hR4 hF4 hS4
  cases qo with
  | none =>
   have hr := HRES.out
   dsimp only at hr
   subst hr
   have hst := Blk.setAll (vs := zero52) (old := zero52) HR4.out rfl
   have HTH := Lib.hid (Blk.there (cs := zero52) HR4.out (n := 4) rfl)
   have HST := Lib.hid hst.1
   have HFF := Lib.hid ((HF4.out.trans hst.2 (fun j hj e => by omega)).shut (Nat.le_refl _))
   have hl1 := HR4.out.lt
   unfold zero52 at HST HFF
   clear hst
   go_wp2_with (refine wpList_store_mid rfl 34 _ _ rfl _ _ _ rfl rfl HTH.out inf52 (one52 _ _ _ _) ?_)
   exact bodyPost_ret (v := .tuple #[.agg #[.int .i64 0, .string ⟨#[]⟩, .string ⟨#[]⟩, .string ⟨#[]⟩], .int .i64 (qp : Int), .int .i64 1]) (results_e3 rfl _ _ w.heap.size 34 _ (0, 0) _ rfl HST.out Tryz.underlying34 rfl (by kernel_rfl) _ _ rfl rfl) rfl ⟨rfl, HFF.out⟩
  | some l =>
   have hr0 := HRES.out
   dsimp only at hr0
   have hse : strL l = str := HSTR.out.symm
   rw [hse] at hr0
   clear hse
   have hqp := HQP.out
   have HS94 := Lib.hid (HST.out qp 94 _ (by decide) (by decide) (by omega) HS4.out)
   have HS95b := Lib.hid (HST.out (qp + 1) 94 _ (by decide) (by decide) (by omega) HS4.out)
   have HS64 := Lib.hid (HST.out qp 64 _ (by decide) (by decide) (by omega) HS4.out)
   clear hqp
   by_cases h94 : peekOf rs qp = 94
   · skip
     rw [h94] at HS94 HS64
     have hql := peek_lt (rs := rs) (p := qp) (by omega)
     by_cases h95b : peekOf rs (qp + 1) = 94
     · have htl : tailR rs qp = (optS (iriR rs (qp + 2)).1, ⟨#[]⟩, (iriR rs (qp + 2)).2, (iriR rs (qp + 2)).1.isSome) := by unfold tailR; rw [if_pos ⟨h94, h95b⟩]
       rw [htl] at hr0
       dsimp only at hr0
       rw [h95b] at HS95b
       have hql2 := peek_lt (rs := rs) (p := qp + 1) (by omega)
       have hif := fun l e h => iriR_wt (rs := rs) (p := qp + 2) (l := l) (e := e) h
       have HIR2 := Lib.hid (riri2_any g c (qp + 2) rs _ hl hv hql2 HS4.out)
       clear htl
       generalize iriR rs (qp + 2) = ir at *
       obtain ⟨io, ip⟩ := ir
       dsimp only at hr0 HIR2
       obtain ⟨st2, hst2⟩ : ∃ x, x = optS io := ⟨_, rfl⟩
       rw [← hst2] at HIR2 hr0
       have HR0 := Lib.hid hr0
       have HST2 := Lib.hid hst2
       have HIF := Lib.hid hif
       clear hr0 hst2 hif
       go_wp2_with fail
       refine HS94.out.mono ?_
       rintro e w5 ⟨rfl, rfl⟩
       go_wp2_with fail
       refine HS95b.out.mono ?_
       rintro e w5 ⟨rfl, rfl⟩
       go_wp2_with fail
       refine HIR2.out.mono ?_
       rintro e w5 ⟨rfl, hf5⟩
       have HT5 := Lib.hid (HT4.out.fr hf5 (fun h => h))
       have HR5 := Lib.hid (HR4.out.fr hf5 (fun h => h))
       have HF5 := Lib.hid (HF4.out.trans hf5 (fun _ _ h => h.elim))
       have HS5 := Lib.hid (HS4.out.frF hf5)
       clear hf5
       have cTc : (w5).cell? ⟨w.heap.size + 1, 2, none⟩ = some (.string xString) := HT5.out.cell 2
       have fTc := HT5.out.frozen 2
       have lTc := HT5.out.lt
       have hxc : Fr (fun j => j = w.heap.size + 1) (w5) ((w5).setCell ⟨w.heap.size + 1, 2, none⟩ (.string st2)) := (Fr.refl (fun j => j = w.heap.size + 1) (w5)).setCell ⟨w.heap.size + 1, 2, none⟩ (fun _ => rfl) _
       have HTc := Lib.hid (HT5.out.set_ 2 (.string st2))
       have HRc := Lib.hid (HR5.out.fr hxc (fun e => by omega))
       have HFc := Lib.hid (HF5.out.trans hxc (fun j hj e => by omega))
       have HSc := Lib.hid (show Ls _ g c rs from ownsRow_fr HS5.out hxc (fun j hj e => own_blk_ne HS5.out HT5.out (by decide) (by rw [hj, e])))
       clear hxc
       cases io with
       | none =>
        have hr := HR0.out
        dsimp only [Option.isSome] at hr
        rw [if_neg Bool.false_ne_true] at hr
        dsimp only at hr
        subst hr
        have hst := Blk.setAll (vs := zero52) (old := zero52) HRc.out rfl
        have HTH := Lib.hid (Blk.there (cs := zero52) HRc.out (n := 4) rfl)
        have HST := Lib.hid hst.1
        have HFF := Lib.hid ((HFc.out.trans hst.2 (fun j hj e => by omega)).shut (Nat.le_refl _))
        have hl1 := HRc.out.lt
        unfold zero52 at HST HFF
        clear hst
        go_wp2_with (refine wpList_store_mid rfl 34 _ _ rfl _ _ _ rfl rfl HTH.out inf52 (one52 _ _ _ _) ?_)
        exact bodyPost_ret (v := .tuple #[.agg #[.int .i64 0, .string ⟨#[]⟩, .string ⟨#[]⟩, .string ⟨#[]⟩], .int .i64 (ip : Int), .int .i64 1]) (results_e3 rfl _ _ w.heap.size 34 _ (0, 0) _ rfl HST.out Tryz.underlying34 rfl (by kernel_rfl) _ _ rfl rfl) rfl ⟨rfl, HFF.out⟩
       | some l2 =>
        have hr := HR0.out
        dsimp only [Option.isSome] at hr
        rw [if_pos rfl] at hr
        dsimp only at hr
        have hll := HIF.out l2 ip rfl
        have hss := strL_wt l2
        have hse2 : strL l2 = st2 := HST2.out.symm
        rw [hse2] at hss
        clear hse2
        have HTZ := Lib.hid (show Blk ((w5).setCell ⟨w.heap.size + 1, 2, none⟩ (.string st2)) (w.heap.size + 1) 34 ([.int .i64 2, .string str, .string st2, .string ⟨#[]⟩] : List Value).toArray from HTc.out)
        have HRG := Lib.hid (blkRange (cs := [.int .i64 2, .string str, .string st2, .string ⟨#[]⟩]) HTZ.out)
        have HGX := Lib.hid (HGD.out ⟨2, str, st2, ⟨#[]⟩⟩ ((w5).setCell ⟨w.heap.size + 1, 2, none⟩ (.string st2)) (by show (0 : Int) ≤ 2; decide) (by show (2 : Int) ≤ 2; decide) HSZ.out (by show st2.size ≤ 16384; omega) size0)
        generalize rGood ⟨2, str, st2, ⟨#[]⟩⟩ = gb at *
        have HRS := Lib.hid hr
        clear hr
        go_wp2_with (refine wpList_load_mid rfl 34 _ rfl (w.heap.size + 1) 0 rfl _ _ HRG.out Tryz.underlying34 rfl inf52 ?_)
        refine HGX.out.mono ?_
        rintro e w9 ⟨rfl, hf9⟩
        have HT9 := Lib.hid (HTZ.out.fr hf9 (fun h => h))
        have HR9 := Lib.hid (HRc.out.fr hf9 (fun h => h))
        have HF9 := Lib.hid (HFc.out.trans hf9 (fun _ _ h => h.elim))
        clear hf9
        have hl1 := HR9.out.lt
        have HTH := Lib.hid (Blk.there (cs := zero52) HR9.out (n := 4) rfl)
        cases gb with
        | false =>
         have hr := HRS.out
         rw [if_neg Bool.false_ne_true] at hr
         subst hr
         have hst := Blk.setAll (vs := zero52) (old := zero52) HR9.out rfl
         have HST := Lib.hid hst.1
         have HFF := Lib.hid ((HF9.out.trans hst.2 (fun j hj e => by omega)).shut (Nat.le_refl _))
         unfold zero52 at HST HFF
         clear hst
         go_wp2_with (refine wpList_store_mid rfl 34 _ _ rfl _ _ _ rfl rfl HTH.out inf52 (one52 _ _ _ _) ?_)
         exact bodyPost_ret (v := .tuple #[.agg #[.int .i64 0, .string ⟨#[]⟩, .string ⟨#[]⟩, .string ⟨#[]⟩], .int .i64 (p : Int), .int .i64 3]) (results_e3 rfl _ _ w.heap.size 34 _ (0, 0) _ rfl HST.out Tryz.underlying34 rfl (by kernel_rfl) _ _ rfl rfl) rfl ⟨rfl, HFF.out⟩
        | true =>
         have hr := HRS.out
         rw [if_pos rfl] at hr
         subst hr
         have HRG9 := Lib.hid (blkRange (cs := [.int .i64 2, .string str, .string st2, .string ⟨#[]⟩]) HT9.out)
         have hst := Blk.setAll (vs := [.int .i64 2, .string str, .string st2, .string ⟨#[]⟩]) (old := zero52) HR9.out rfl
         have HST := Lib.hid hst.1
         have HFF := Lib.hid ((HF9.out.trans hst.2 (fun j hj e => by omega)).shut (Nat.le_refl _))
         clear hst
         go_wp2_with (first | refine wpList_load_mid rfl 34 _ rfl (w.heap.size + 1) 0 rfl _ _ HRG9.out Tryz.underlying34 rfl inf52 ?_ | refine wpList_store_mid rfl 34 _ _ rfl _ _ _ rfl rfl HTH.out inf52 (one52 _ _ _ _) ?_)
         exact bodyPost_ret (v := .tuple #[.agg #[.int .i64 2, .string str, .string st2, .string ⟨#[]⟩], .int .i64 (ip : Int), .int .i64 0]) (results_e3 rfl _ _ w.heap.size 34 _ (0, 0) _ rfl HST.out Tryz.underlying34 rfl (by kernel_rfl) _ _ rfl rfl) rfl ⟨rfl, HFF.out⟩
     · exact absurd (HQQ.out.elim (fun h => by cases h) (fun h => h.2)) h95b
   · exact absurd (HQQ.out.elim (fun h => by cases h) (fun h => h.1)) h94

theorem rread_34b (g c p : Nat) (rs : List Int) (w : World) (hl : rs.length ≤ 8100) (hw : wt rs ≤ 8100) (hv : ∀ r, r ∈ rs → signR r = true) (hp : p ≤ rs.length) (h : Ls w g c rs) (h60 : ¬ peekOf rs p = 60) (h95 : ¬ peekOf rs p = 95) (h34 : peekOf rs p = 34) (hq : ¬ ((quotR rs p).1 = none ∨ (peekOf rs (quotR rs p).2 = 94 ∧ peekOf rs ((quotR rs p).2 + 1) = 94))) :
    Calls Tryz.prog 61 #[.slice (some ⟨g, 0, none⟩) rs.length c, .int .i64 (p : Int)] w (ReadV (docV rs p) w) := by
 have HST := Lib.hid (fun q ch w1 h0 h1 hq h2 => stands_any g c q ch rs w1 h0 h1 hq h2)
 have HS := Lib.hid h
 have HIR := Lib.hid (fun w1 h1 => riri2_any g c p rs w1 hl hv hp h1)
 have hf0 : Fr (fun _ => False) w ((w.alloc (.cells #[.int .i64 0, .string ⟨#[]⟩, .string ⟨#[]⟩, .string ⟨#[]⟩] 34)).alloc (.cells #[.int .i64 0, .string ⟨#[]⟩, .string ⟨#[]⟩, .string ⟨#[]⟩] 34)) := ((Fr.refl _ _).alloc _).alloc _
 have S1 := Lib.hid (fun ch h0 h1 => stands_any g c p ch rs _ h0 h1 (by omega) (h.frF hf0))
 have hb1 := (Blk.new w 34 #[.int .i64 0, .string ⟨#[]⟩, .string ⟨#[]⟩, .string ⟨#[]⟩]).alloc (.cells #[.int .i64 0, .string ⟨#[]⟩, .string ⟨#[]⟩, .string ⟨#[]⟩] 34)
 have hb2 := Blk.new (w.alloc (.cells #[.int .i64 0, .string ⟨#[]⟩, .string ⟨#[]⟩, .string ⟨#[]⟩] 34)) 34 #[.int .i64 0, .string ⟨#[]⟩, .string ⟨#[]⟩, .string ⟨#[]⟩]
 rw [show (w.alloc (.cells #[.int .i64 0, .string ⟨#[]⟩, .string ⟨#[]⟩, .string ⟨#[]⟩] 34)).heap.size = w.heap.size + 1 by simp] at hb2
 have HB1 := Lib.hid hb1
 have HB2 := Lib.hid hb2
 have HF0 := Lib.hid hf0
 have HGD := Lib.hid (fun (x : DT) w1 h1 h2 h3 h4 h5 => rgood_any x w1 h1 h2 h3 h4 h5)
 have HFI := Lib.hid (iriR_fits rs hv p hp)
 have HS0 := Lib.hid (h.frF hf0)
 clear h hf0 hb1 hb2
 obtain ⟨res, hres⟩ : ∃ x, x = docV rs p := ⟨_, rfl⟩
 rw [← hres]
 unfold docV docR at hres
 have HF0B := Lib.hid (HF0.out.mono (T := fun j => w.heap.size ≤ j) (fun _ _ h => h.elim))
 rw [if_neg h60] at hres
 have S60 := Lib.hid (S1.out 60 (by decide) (by decide))
 rw [decide_eq_false h60] at S60
 have S95 := Lib.hid (S1.out 95 (by decide) (by decide))
 have S34 := Lib.hid (S1.out 34 (by decide) (by decide))
 rw [if_neg h95] at hres
 rw [decide_eq_false h95] at S95
 rw [if_pos h34] at hres
 rw [h34] at S34
 have hqf := quotR_fits rs hv p hp
 have HQ := Lib.hid (fun w1 h1 => rquoted_any g c p rs w1 hl hv hp h1)
 have hqw := fun l e h => quotR_wt (rs := rs) hv (p := p) (l := l) (e := e) h
 generalize quotR rs p = qr at *
 obtain ⟨qo, qp⟩ := qr
 have HQQ := Lib.hid hq
 clear hq
 have hqp := hqf.2
 dsimp only at hqp
 unfold RQPost at HQ
 dsimp only at HQ
 have hol : (outOf qo).length ≤ rs.length := by
  cases qo with
  | none => exact Nat.zero_le _
  | some l => have h1 := (hqf.1 l rfl).1; have h2 : ([] : List Int).length = 0 := rfl; show l.length ≤ _; omega
 have hos : ∀ x, x ∈ outOf qo → signR x = true := by
  cases qo with
  | none => exact fun x hx => (by cases hx)
  | some l => exact (hqf.1 l rfl).2
 have HXT := Lib.hid (fun B A1 c1 w1 h1 => rtext_any B (outOf qo).length c1 A1 (outOf qo) w1 rfl (by omega) hos h1)
 have hsz : (strL (outOf qo)).size ≤ 16384 := by
  cases qo with
  | none => exact Nat.zero_le _
  | some l => have h1 := hqw l qp rfl; have h2 := strL_wt l; show (strL l).size ≤ 16384; omega
 clear hqw
 obtain ⟨str, hstr⟩ : ∃ x, x = strL (outOf qo) := ⟨_, rfl⟩
 rw [← hstr] at HXT hsz
 have HSTR := Lib.hid hstr
 have HRES := Lib.hid hres
 have HSZ := Lib.hid hsz
 have HQP := Lib.hid hqp
 clear hres hstr hos hol hsz hqf hqp
 go_enter Tryz.func61, Tryz.ntmps61
 go_wp2_with fail
 refine S60.out.mono ?_
 rintro e w1 ⟨rfl, rfl⟩
 generalize ((w.alloc (.cells #[.int .i64 0, .string ⟨#[]⟩, .string ⟨#[]⟩, .string ⟨#[]⟩] 34)).alloc (.cells #[.int .i64 0, .string ⟨#[]⟩, .string ⟨#[]⟩, .string ⟨#[]⟩] 34)) = w0 at *
 go_wp2_with fail
 refine S95.out.mono ?_
 rintro e w1 ⟨rfl, rfl⟩
 go_wp2_with fail
 refine S34.out.mono ?_
 rintro e w1 ⟨rfl, rfl⟩
 have HX := Lib.hid (HQ.out w0 HS0.out)
 generalize hon : (outOf qo).length = on at *
 go_wp2_with fail
 refine HX.out.mono ?_
 rintro e w2 ⟨⟨QA, qc, rfl, hqrow⟩, hf2⟩
 have HT2 := Lib.hid (HB2.out.fr hf2 (fun h => h))
 have HR2 := Lib.hid (HB1.out.fr hf2 (fun h => h))
 have HF2 := Lib.hid (HF0B.out.trans hf2 (fun _ _ h => h.elim))
 have HS2 := Lib.hid (HS0.out.frF hf2)
 have HX2 := Lib.hid (HXT.out _ QA qc w2 hqrow)
 clear hf2 hqrow
 go_upto_region 13 with (fail)
 go_cut [] from 56 to 58 (fun wx => R34 w g c rs str wx)
 case first =>
  go_wp2_with fail
  refine HX2.out.mono ?_
  rintro e w3 ⟨rfl, hf3⟩
  have HT3 := Lib.hid (HT2.out.fr hf3 (fun h => h))
  have HR3 := Lib.hid (HR2.out.fr hf3 (fun h => h))
  have HF3 := Lib.hid (HF2.out.trans hf3 (fun _ _ h => h.elim))
  have HS3 := Lib.hid (HS2.out.frF hf3)
  clear hf3
  have HTHt := Lib.hid (Blk.there (cs := zero52) HT3.out (n := 4) rfl)
  have hst4 := Blk.setAll (vs := [.int .i64 2, .string str, .string xString, .string ⟨#[]⟩]) (old := zero52) HT3.out rfl
  have hlt3 := HT3.out.lt
  have HT4 := Lib.hid hst4.1
  have HR4 := Lib.hid (HR3.out.fr hst4.2 (fun e => by omega))
  have HF4 := Lib.hid (HF3.out.trans hst4.2 (fun j hj e => by omega))
  have HS4 := Lib.hid (show Ls _ g c rs from ownsRow_fr HS3.out hst4.2 (fun j hj e => own_blk_ne HS3.out HT3.out (by decide) (by rw [hj, e])))
  clear hst4
  go_wp2_with (refine wpList_store_mid rfl 34 _ _ rfl (w.heap.size + 1) 0 #[.int .i64 2, .string str, .string xString, .string ⟨#[]⟩] rfl rfl HTHt.out inf52 (one52 2 str xString ⟨#[]⟩) ?_)
  go_meet
  exact ⟨HT4.out, HR4.out, HF4.out, HS4.out⟩
 case rest =>
  obtain ⟨hT4, hR4, hF4, hS4⟩ := hcut
  have HT4 := Lib.hid (show Blk wc (w.heap.size + 1) 34 ([.int .i64 2, .string str, .string xString, .string ⟨#[]⟩] : List Value).toArray from hT4)
  have HR4 := Lib.hid (show Blk wc w.heap.size 34 zero52.toArray from hR4)
  have HF4 := Lib.hid hF4
  have HS4 := Lib.hid hS4
  clear hT4 hR4 hF4 hS4
  cases qo with
  | none =>
   exact absurd (.inl rfl) HQQ.out
  | some l =>
   have hr0 := HRES.out
   dsimp only at hr0
   have hse : strL l = str := HSTR.out.symm
   rw [hse] at hr0
   clear hse
   have hqp := HQP.out
   have HS94 := Lib.hid (HST.out qp 94 _ (by decide) (by decide) (by omega) HS4.out)
   have HS95b := Lib.hid (HST.out (qp + 1) 94 _ (by decide) (by decide) (by omega) HS4.out)
   have HS64 := Lib.hid (HST.out qp 64 _ (by decide) (by decide) (by omega) HS4.out)
   clear hqp
   by_cases h94 : peekOf rs qp = 94
   · skip
     have h94v := h94
     rw [h94] at HS94 HS64
     have hql := peek_lt (rs := rs) (p := qp) (by omega)
     by_cases h95b : peekOf rs (qp + 1) = 94
     · exact absurd (.inr ⟨h94v, h95b⟩) HQQ.out
     · skip
       have htl : tailR rs qp = (xString, ⟨#[]⟩, qp, true) := by unfold tailR; rw [if_neg (fun h => h95b h.2), if_neg (by omega)]
       rw [htl] at hr0
       dsimp only at hr0
       rw [if_pos rfl] at hr0
       dsimp only at hr0
       have HR0 := Lib.hid hr0
       clear hr0 htl
       rw [decide_eq_false h95b] at HS95b
       go_wp2_with fail
       refine HS94.out.mono ?_
       rintro e w5 ⟨rfl, rfl⟩
       go_wp2_with fail
       refine HS95b.out.mono ?_
       rintro e w5 ⟨rfl, rfl⟩
       go_wp2_with fail
       refine HS64.out.mono ?_
       rintro e w5 ⟨rfl, rfl⟩
       have hr := HR0.out
       have HTZ := Lib.hid (show Blk (wc) (w.heap.size + 1) 34 ([.int .i64 2, .string str, .string xString, .string ⟨#[]⟩] : List Value).toArray from HT4.out)
       have HRG := Lib.hid (blkRange (cs := [.int .i64 2, .string str, .string xString, .string ⟨#[]⟩]) HTZ.out)
       have HGX := Lib.hid (HGD.out ⟨2, str, xString, ⟨#[]⟩⟩ (wc) (by show (0 : Int) ≤ 2; decide) (by show (2 : Int) ≤ 2; decide) HSZ.out xString_size size0)
       generalize rGood ⟨2, str, xString, ⟨#[]⟩⟩ = gb at *
       have HRS := Lib.hid hr
       clear hr
       go_wp2_with (refine wpList_load_mid rfl 34 _ rfl (w.heap.size + 1) 0 rfl _ _ HRG.out Tryz.underlying34 rfl inf52 ?_)
       refine HGX.out.mono ?_
       rintro e w9 ⟨rfl, hf9⟩
       have HT9 := Lib.hid (HTZ.out.fr hf9 (fun h => h))
       have HR9 := Lib.hid (HR4.out.fr hf9 (fun h => h))
       have HF9 := Lib.hid (HF4.out.trans hf9 (fun _ _ h => h.elim))
       clear hf9
       have hl1 := HR9.out.lt
       have HTH := Lib.hid (Blk.there (cs := zero52) HR9.out (n := 4) rfl)
       cases gb with
       | false =>
        have hr := HRS.out
        rw [if_neg Bool.false_ne_true] at hr
        subst hr
        have hst := Blk.setAll (vs := zero52) (old := zero52) HR9.out rfl
        have HST := Lib.hid hst.1
        have HFF := Lib.hid ((HF9.out.trans hst.2 (fun j hj e => by omega)).shut (Nat.le_refl _))
        unfold zero52 at HST HFF
        clear hst
        go_wp2_with (refine wpList_store_mid rfl 34 _ _ rfl _ _ _ rfl rfl HTH.out inf52 (one52 _ _ _ _) ?_)
        exact bodyPost_ret (v := .tuple #[.agg #[.int .i64 0, .string ⟨#[]⟩, .string ⟨#[]⟩, .string ⟨#[]⟩], .int .i64 (p : Int), .int .i64 3]) (results_e3 rfl _ _ w.heap.size 34 _ (0, 0) _ rfl HST.out Tryz.underlying34 rfl (by kernel_rfl) _ _ rfl rfl) rfl ⟨rfl, HFF.out⟩
       | true =>
        have hr := HRS.out
        rw [if_pos rfl] at hr
        subst hr
        have HRG9 := Lib.hid (blkRange (cs := [.int .i64 2, .string str, .string xString, .string ⟨#[]⟩]) HT9.out)
        have hst := Blk.setAll (vs := [.int .i64 2, .string str, .string xString, .string ⟨#[]⟩]) (old := zero52) HR9.out rfl
        have HST := Lib.hid hst.1
        have HFF := Lib.hid ((HF9.out.trans hst.2 (fun j hj e => by omega)).shut (Nat.le_refl _))
        clear hst
        go_wp2_with (first | refine wpList_load_mid rfl 34 _ rfl (w.heap.size + 1) 0 rfl _ _ HRG9.out Tryz.underlying34 rfl inf52 ?_ | refine wpList_store_mid rfl 34 _ _ rfl _ _ _ rfl rfl HTH.out inf52 (one52 _ _ _ _) ?_)
        exact bodyPost_ret (v := .tuple #[.agg #[.int .i64 2, .string str, .string xString, .string ⟨#[]⟩], .int .i64 (qp : Int), .int .i64 0]) (results_e3 rfl _ _ w.heap.size 34 _ (0, 0) _ rfl HST.out Tryz.underlying34 rfl (by kernel_rfl) _ _ rfl rfl) rfl ⟨rfl, HFF.out⟩
   · rw [decide_eq_false h94] at HS94
     by_cases h64 : peekOf rs qp = 64
     · have htl : tailR rs qp = (xLang, strL (part rs (qp + 1) (wordE rs [45] (qp + 1))), wordE rs [45] (qp + 1), true) := by unfold tailR; rw [if_neg (fun h => h94 h.1), if_pos h64]
       rw [htl] at hr0
       dsimp only at hr0
       rw [if_pos rfl] at hr0
       dsimp only at hr0
       rw [h64] at HS64
       have hql := peek_lt (rs := rs) (p := qp) (by omega)
       have HWD := Lib.hid (fun w1 h1 => rword_any g c (qp + 1) false rs w1 hl hv hql h1)
       rw [if_neg Bool.false_ne_true] at HWD
       have hss := strL_wt (part rs (qp + 1) (wordE rs [45] (qp + 1)))
       have hpz := wt_part rs (qp + 1) (wordE rs [45] (qp + 1))
       clear htl
       generalize wordE rs [45] (qp + 1) = q2 at *
       generalize strL (part rs (qp + 1) q2) = lang at *
       have HR0 := Lib.hid hr0
       clear hr0
       go_wp2_with fail
       refine HS94.out.mono ?_
       rintro e w5 ⟨rfl, rfl⟩
       go_wp2_with fail
       refine HS64.out.mono ?_
       rintro e w5 ⟨rfl, rfl⟩
       have cTc : (wc).cell? ⟨w.heap.size + 1, 2, none⟩ = some (.string xString) := HT4.out.cell 2
       have fTc := HT4.out.frozen 2
       have lTc := HT4.out.lt
       have hxc : Fr (fun j => j = w.heap.size + 1) (wc) ((wc).setCell ⟨w.heap.size + 1, 2, none⟩ (.string xLang)) := (Fr.refl (fun j => j = w.heap.size + 1) (wc)).setCell ⟨w.heap.size + 1, 2, none⟩ (fun _ => rfl) _
       have HTc := Lib.hid (HT4.out.set_ 2 (.string xLang))
       have HRc := Lib.hid (HR4.out.fr hxc (fun e => by omega))
       have HFc := Lib.hid (HF4.out.trans hxc (fun j hj e => by omega))
       have HSc := Lib.hid (show Ls _ g c rs from ownsRow_fr HS4.out hxc (fun j hj e => own_blk_ne HS4.out HT4.out (by decide) (by rw [hj, e])))
       clear hxc
       have HX7 := Lib.hid (HWD.out _ HSc.out)
       go_wp2_with fail
       refine HX7.out.mono ?_
       rintro e w6 ⟨rfl, hf6⟩
       have HT6 := Lib.hid (HTc.out.fr hf6 (fun h => h))
       have HR6 := Lib.hid (HRc.out.fr hf6 (fun h => h))
       have HF6 := Lib.hid (HFc.out.trans hf6 (fun _ _ h => h.elim))
       have HS6 := Lib.hid (HSc.out.frF hf6)
       clear hf6
       have cTd : (w6).cell? ⟨w.heap.size + 1, 3, none⟩ = some (.string ⟨#[]⟩) := HT6.out.cell 3
       have fTd := HT6.out.frozen 3
       have lTd := HT6.out.lt
       have hxd : Fr (fun j => j = w.heap.size + 1) (w6) ((w6).setCell ⟨w.heap.size + 1, 3, none⟩ (.string lang)) := (Fr.refl (fun j => j = w.heap.size + 1) (w6)).setCell ⟨w.heap.size + 1, 3, none⟩ (fun _ => rfl) _
       have HTd := Lib.hid (HT6.out.set_ 3 (.string lang))
       have HRd := Lib.hid (HR6.out.fr hxd (fun e => by omega))
       have HFd := Lib.hid (HF6.out.trans hxd (fun j hj e => by omega))
       have HSd := Lib.hid (show Ls _ g c rs from ownsRow_fr HS6.out hxd (fun j hj e => own_blk_ne HS6.out HT6.out (by decide) (by rw [hj, e])))
       clear hxd
       have hr := HR0.out
       have HTZ := Lib.hid (show Blk ((w6).setCell ⟨w.heap.size + 1, 3, none⟩ (.string lang)) (w.heap.size + 1) 34 ([.int .i64 2, .string str, .string xLang, .string lang] : List Value).toArray from HTd.out)
       have HRG := Lib.hid (blkRange (cs := [.int .i64 2, .string str, .string xLang, .string lang]) HTZ.out)
       have HGX := Lib.hid (HGD.out ⟨2, str, xLang, lang⟩ ((w6).setCell ⟨w.heap.size + 1, 3, none⟩ (.string lang)) (by show (0 : Int) ≤ 2; decide) (by show (2 : Int) ≤ 2; decide) HSZ.out xLang_size (by show lang.size ≤ 16384; omega))
       generalize rGood ⟨2, str, xLang, lang⟩ = gb at *
       have HRS := Lib.hid hr
       clear hr
       go_wp2_with (refine wpList_load_mid rfl 34 _ rfl (w.heap.size + 1) 0 rfl _ _ HRG.out Tryz.underlying34 rfl inf52 ?_)
       refine HGX.out.mono ?_
       rintro e w9 ⟨rfl, hf9⟩
       have HT9 := Lib.hid (HTZ.out.fr hf9 (fun h => h))
       have HR9 := Lib.hid (HRd.out.fr hf9 (fun h => h))
       have HF9 := Lib.hid (HFd.out.trans hf9 (fun _ _ h => h.elim))
       clear hf9
       have hl1 := HR9.out.lt
       have HTH := Lib.hid (Blk.there (cs := zero52) HR9.out (n := 4) rfl)
       cases gb with
       | false =>
        have hr := HRS.out
        rw [if_neg Bool.false_ne_true] at hr
        subst hr
        have hst := Blk.setAll (vs := zero52) (old := zero52) HR9.out rfl
        have HST := Lib.hid hst.1
        have HFF := Lib.hid ((HF9.out.trans hst.2 (fun j hj e => by omega)).shut (Nat.le_refl _))
        unfold zero52 at HST HFF
        clear hst
        go_wp2_with (refine wpList_store_mid rfl 34 _ _ rfl _ _ _ rfl rfl HTH.out inf52 (one52 _ _ _ _) ?_)
        exact bodyPost_ret (v := .tuple #[.agg #[.int .i64 0, .string ⟨#[]⟩, .string ⟨#[]⟩, .string ⟨#[]⟩], .int .i64 (p : Int), .int .i64 3]) (results_e3 rfl _ _ w.heap.size 34 _ (0, 0) _ rfl HST.out Tryz.underlying34 rfl (by kernel_rfl) _ _ rfl rfl) rfl ⟨rfl, HFF.out⟩
       | true =>
        have hr := HRS.out
        rw [if_pos rfl] at hr
        subst hr
        have HRG9 := Lib.hid (blkRange (cs := [.int .i64 2, .string str, .string xLang, .string lang]) HT9.out)
        have hst := Blk.setAll (vs := [.int .i64 2, .string str, .string xLang, .string lang]) (old := zero52) HR9.out rfl
        have HST := Lib.hid hst.1
        have HFF := Lib.hid ((HF9.out.trans hst.2 (fun j hj e => by omega)).shut (Nat.le_refl _))
        clear hst
        go_wp2_with (first | refine wpList_load_mid rfl 34 _ rfl (w.heap.size + 1) 0 rfl _ _ HRG9.out Tryz.underlying34 rfl inf52 ?_ | refine wpList_store_mid rfl 34 _ _ rfl _ _ _ rfl rfl HTH.out inf52 (one52 _ _ _ _) ?_)
        exact bodyPost_ret (v := .tuple #[.agg #[.int .i64 2, .string str, .string xLang, .string lang], .int .i64 (q2 : Int), .int .i64 0]) (results_e3 rfl _ _ w.heap.size 34 _ (0, 0) _ rfl HST.out Tryz.underlying34 rfl (by kernel_rfl) _ _ rfl rfl) rfl ⟨rfl, HFF.out⟩
     · rw [decide_eq_false h64] at HS64
       have htl : tailR rs qp = (xString, ⟨#[]⟩, qp, true) := by unfold tailR; rw [if_neg (fun h => h94 h.1), if_neg h64]
       rw [htl] at hr0
       dsimp only at hr0
       rw [if_pos rfl] at hr0
       dsimp only at hr0
       have HR0 := Lib.hid hr0
       clear hr0 htl
       go_wp2_with fail
       refine HS94.out.mono ?_
       rintro e w5 ⟨rfl, rfl⟩
       go_wp2_with fail
       refine HS64.out.mono ?_
       rintro e w5 ⟨rfl, rfl⟩
       have hr := HR0.out
       have HTZ := Lib.hid (show Blk (wc) (w.heap.size + 1) 34 ([.int .i64 2, .string str, .string xString, .string ⟨#[]⟩] : List Value).toArray from HT4.out)
       have HRG := Lib.hid (blkRange (cs := [.int .i64 2, .string str, .string xString, .string ⟨#[]⟩]) HTZ.out)
       have HGX := Lib.hid (HGD.out ⟨2, str, xString, ⟨#[]⟩⟩ (wc) (by show (0 : Int) ≤ 2; decide) (by show (2 : Int) ≤ 2; decide) HSZ.out xString_size size0)
       generalize rGood ⟨2, str, xString, ⟨#[]⟩⟩ = gb at *
       have HRS := Lib.hid hr
       clear hr
       go_wp2_with (refine wpList_load_mid rfl 34 _ rfl (w.heap.size + 1) 0 rfl _ _ HRG.out Tryz.underlying34 rfl inf52 ?_)
       refine HGX.out.mono ?_
       rintro e w9 ⟨rfl, hf9⟩
       have HT9 := Lib.hid (HTZ.out.fr hf9 (fun h => h))
       have HR9 := Lib.hid (HR4.out.fr hf9 (fun h => h))
       have HF9 := Lib.hid (HF4.out.trans hf9 (fun _ _ h => h.elim))
       clear hf9
       have hl1 := HR9.out.lt
       have HTH := Lib.hid (Blk.there (cs := zero52) HR9.out (n := 4) rfl)
       cases gb with
       | false =>
        have hr := HRS.out
        rw [if_neg Bool.false_ne_true] at hr
        subst hr
        have hst := Blk.setAll (vs := zero52) (old := zero52) HR9.out rfl
        have HST := Lib.hid hst.1
        have HFF := Lib.hid ((HF9.out.trans hst.2 (fun j hj e => by omega)).shut (Nat.le_refl _))
        unfold zero52 at HST HFF
        clear hst
        go_wp2_with (refine wpList_store_mid rfl 34 _ _ rfl _ _ _ rfl rfl HTH.out inf52 (one52 _ _ _ _) ?_)
        exact bodyPost_ret (v := .tuple #[.agg #[.int .i64 0, .string ⟨#[]⟩, .string ⟨#[]⟩, .string ⟨#[]⟩], .int .i64 (p : Int), .int .i64 3]) (results_e3 rfl _ _ w.heap.size 34 _ (0, 0) _ rfl HST.out Tryz.underlying34 rfl (by kernel_rfl) _ _ rfl rfl) rfl ⟨rfl, HFF.out⟩
       | true =>
        have hr := HRS.out
        rw [if_pos rfl] at hr
        subst hr
        have HRG9 := Lib.hid (blkRange (cs := [.int .i64 2, .string str, .string xString, .string ⟨#[]⟩]) HT9.out)
        have hst := Blk.setAll (vs := [.int .i64 2, .string str, .string xString, .string ⟨#[]⟩]) (old := zero52) HR9.out rfl
        have HST := Lib.hid hst.1
        have HFF := Lib.hid ((HF9.out.trans hst.2 (fun j hj e => by omega)).shut (Nat.le_refl _))
        clear hst
        go_wp2_with (first | refine wpList_load_mid rfl 34 _ rfl (w.heap.size + 1) 0 rfl _ _ HRG9.out Tryz.underlying34 rfl inf52 ?_ | refine wpList_store_mid rfl 34 _ _ rfl _ _ _ rfl rfl HTH.out inf52 (one52 _ _ _ _) ?_)
        exact bodyPost_ret (v := .tuple #[.agg #[.int .i64 2, .string str, .string xString, .string ⟨#[]⟩], .int .i64 (qp : Int), .int .i64 0]) (results_e3 rfl _ _ w.heap.size 34 _ (0, 0) _ rfl HST.out Tryz.underlying34 rfl (by kernel_rfl) _ _ rfl rfl) rfl ⟨rfl, HFF.out⟩

theorem rread_any (g c p : Nat) (rs : List Int) (w : World) (hl : rs.length ≤ 8100) (hw : wt rs ≤ 8100) (hv : ∀ r, r ∈ rs → signR r = true) (hp : p ≤ rs.length) (h : Ls w g c rs) :
    Calls Tryz.prog 61 #[.slice (some ⟨g, 0, none⟩) rs.length c, .int .i64 (p : Int)] w (ReadV (docV rs p) w) := by
 by_cases h60 : peekOf rs p = 60
 · exact rread_60 g c p rs w hl hw hv hp h h60
 · by_cases h95 : peekOf rs p = 95
   · exact rread_95 g c p rs w hl hw hv hp h h60 h95
   · by_cases h34 : peekOf rs p = 34
     · by_cases hq : (quotR rs p).1 = none ∨ (peekOf rs (quotR rs p).2 = 94 ∧ peekOf rs ((quotR rs p).2 + 1) = 94)
       · exact rread_34a g c p rs w hl hw hv hp h h60 h95 h34 hq
       · exact rread_34b g c p rs w hl hw hv hp h h60 h95 h34 hq
     · exact rread_no g c p rs w hl hw hv hp h h60 h95 h34

/-- What a token that is no var ends with. -/
def EndP (rs : List Int) (e : Nat) : Prop := 2 ≤ e ∧ peekOf rs (e - 1) ≠ 32 ∧ ¬ (peekOf rs (e - 1) = 121 ∧ peekOf rs (e - 2) = 63)
theorem EndP.of {rs : List Int} {e : Nat} {x : Int} (h1 : 2 ≤ e) (h : peekOf rs (e - 1) = x) (h2 : x ≠ 32) (h3 : x ≠ 121) : EndP rs e := ⟨h1, by rw [h]; exact h2, fun h4 => h3 (h.symm.trans h4.1)⟩
theorem iriT_last (rs : List Int) : ∀ m i out l e, rs.length - i ≤ m → iriT rs i out = (some l, e) → i < e ∧ e ≤ rs.length ∧ peekOf rs (e - 1) = 62
 | 0, i, out, l, e, hm, h => by
  rw [iriT_end out (by omega)] at h
  cases h
 | m + 1, i, out, l, e, hm, h => by
  by_cases hil : i < rs.length ∧ peekOf rs i ≠ 10
  · by_cases h62 : peekOf rs i = 62
    · rw [iriT_shut out h62] at h
      injection h with _ h
      subst h
      exact ⟨by omega, hil.1, h62⟩
    · by_cases h92 : peekOf rs i = 92
      · by_cases hu : peekOf rs (i + 1) = 117
        · rw [iriT_u out h92 hu] at h
          by_cases hk : (numR rs 4 (i + 2)).2.2 = true
          · rw [if_pos hk] at h
            have := iriT_last rs m (i + 6) _ l e (by omega) h
            exact ⟨by omega, this.2⟩
          · rw [if_neg hk] at h
            cases h
        · by_cases hU : peekOf rs (i + 1) = 85
          · rw [iriT_U out h92 hU] at h
            by_cases hk : (numR rs 8 (i + 2)).2.2 = true
            · rw [if_pos hk] at h
              have := iriT_last rs m (i + 10) _ l e (by omega) h
              exact ⟨by omega, this.2⟩
            · rw [if_neg hk] at h
              cases h
          · rw [iriT_no out h92 hu hU] at h
            cases h
      · rw [iriT_go out hil.1 hil.2 h62 h92] at h
        have := iriT_last rs m (i + 1) _ l e (by omega) h
        exact ⟨by omega, this.2⟩
  · rw [iriT_end out hil] at h
    cases h
theorem iriR_last {rs : List Int} {p e : Nat} {l : List Int} (h : iriR rs p = (some l, e)) : p + 1 < e ∧ e ≤ rs.length ∧ peekOf rs (e - 1) = 62 := by
 unfold iriR at h
 split at h
 · exact iriT_last rs _ _ _ l e (Nat.le_refl _) h
 · cases h
theorem quotT_last (rs : List Int) (hv0 : ∀ r, r ∈ rs → 0 ≤ r) : ∀ m i out l e, rs.length - i ≤ m → quotT rs i out = (some l, e) → i < e ∧ e ≤ rs.length ∧ peekOf rs (e - 1) = 34
 | m, i, out, l, e, hm, h => by
  by_cases hb : peekOf rs i = -1 ∨ peekOf rs i = 10 ∨ peekOf rs i = 13
  · rw [quotT_end hv0 out hb] at h
    cases h
  · have hil : i < rs.length := Classical.byContradiction fun h => hb (.inl (by unfold peekOf; rw [if_neg h]))
    cases m with
    | zero => exact absurd hm (by omega)
    | succ m =>
     by_cases h34 : peekOf rs i = 34
     · rw [quotT_shut out h34] at h
       injection h with _ h
       subst h
       exact ⟨by omega, hil, h34⟩
     · by_cases h92 : peekOf rs i = 92
       · cases hk : (escT rs (i + 1)).2.2 with
         | true =>
          rw [quotT_ok out h92 hk] at h
          have he := escT_ok hk
          have := quotT_last rs hv0 m _ _ l e (by omega) h
          exact ⟨by omega, this.2⟩
         | false =>
          rw [quotT_no out h92 hk] at h
          cases h
       · rw [quotT_go out hil h34 h92 (fun h => hb (.inr (.inl h))) (fun h => hb (.inr (.inr h)))] at h
         have := quotT_last rs hv0 m (i + 1) _ l e (by omega) h
         exact ⟨by omega, this.2⟩
theorem quotR_last {rs : List Int} (hv : ∀ r, r ∈ rs → signR r = true) {p e : Nat} {l : List Int} (h : quotR rs p = (some l, e)) : p + 1 < e ∧ e ≤ rs.length ∧ peekOf rs (e - 1) = 34 := by
 unfold quotR at h
 split at h
 · exact quotT_last rs (fun r hr => ((signR_iff r).1 (hv r hr)).1) _ _ _ l e (Nat.le_refl _) h
 · cases h
theorem word_in (rs ms : List Int) : ∀ m p, rs.length - p ≤ m → ∀ j, p ≤ j → j < wordE rs ms p → j < rs.length ∧ inW ms (peekOf rs j) = true
 | m, p, hm, j, h1, h2 => by
  by_cases hc : p < rs.length ∧ inW ms (rs.getD p 0) = true
  · rw [wordE_step hc.1 hc.2] at h2
    by_cases e : j = p
    · subst e
      unfold peekOf
      rw [if_pos hc.1]
      exact hc
    · cases m with
      | zero => omega
      | succ m => exact word_in rs ms m (p + 1) (by omega) j (by omega) h2
  · rw [wordE_stop hc] at h2
    omega
theorem inW_32 {ms : List Int} (h : ms.contains 32 = false) : inW ms 32 = false := by
 unfold inW
 rw [h, show clsOf 32 = 0 from rfl]
 rfl
theorem inW_63 {ms : List Int} (h : ms.contains 63 = false) : inW ms 63 = false := by
 unfold inW
 rw [h, show clsOf 63 = 3 from rfl]
 rfl
theorem word_end {rs ms : List Int} {p : Nat} {x : Int} (h32 : ms.contains 32 = false) (h63 : ms.contains 63 = false) (hp : p ≤ rs.length) (hp2 : 2 ≤ p) (hx : peekOf rs (p - 1) = x) (h1 : x ≠ 32) (h2 : x ≠ 121) (h3 : x ≠ 63) : EndP rs (wordE rs ms p) := by
 have hl := (wordE_le rs ms (rs.length - p) p (Nat.le_refl _) hp).1
 have hin := word_in rs ms _ p (Nat.le_refl _)
 generalize wordE rs ms p = e at *
 by_cases e0 : e = p
 · subst e0
   exact .of hp2 hx h1 h2
 · have ha := (hin (e - 1) (by omega) (by omega)).2
   refine ⟨by omega, fun h => ?_, fun h => ?_⟩
   · rw [h, inW_32 h32] at ha
     cases ha
   · by_cases e1 : e = p + 1
     · subst e1
       rw [show p + 1 - 2 = p - 1 by omega, hx] at h
       exact h3 h.2
     · have hb := (hin (e - 2) (by omega) (by omega)).2
       rw [h.2, inW_63 h63] at hb
       cases hb
theorem docR_last {rs : List Int} (hv : ∀ r, r ∈ rs → signR r = true) {p e : Nat} {x : DT} (hp : p ≤ rs.length) (h : docR rs p = (some x, e)) : p < e ∧ e ≤ rs.length ∧ EndP rs e := by
 unfold docR at h
 split at h
 · cases hi : iriR rs p with
   | mk io ip =>
    rw [hi] at h
    cases io with
    | none => cases h
    | some l =>
     have h2 := iriR_last hi
     injection h with _ h
     dsimp only at h
     subst h
     exact ⟨by omega, h2.2.1, .of (by omega) h2.2.2 (by decide) (by decide)⟩
 · split at h
   · rename_i h95
     split at h
     · rename_i h58
       have hl := peek_lt (rs := rs) (p := p + 1) (by omega)
       injection h with _ h
       subst h
       have hw := wordE_le rs [95, 45] (rs.length - (p + 2)) (p + 2) (Nat.le_refl _) hl
       exact ⟨by omega, hw.2, word_end (x := 58) rfl rfl hl (by omega) (by rw [show p + 2 - 1 = p + 1 by omega]; exact h58) (by decide) (by decide) (by decide)⟩
     · cases h
   · split at h
     · cases hq : quotR rs p with
       | mk qo qp =>
        rw [hq] at h
        cases qo with
        | none => cases h
        | some l =>
         have h2 := quotR_last hv hq
         dsimp only at h
         split at h
         · rename_i ht
           injection h with _ h
           unfold tailR at h ht
           split at h
           · rename_i h94
             rw [if_pos h94] at ht
             cases hi : iriR rs (qp + 2) with
             | mk io ip =>
              rw [hi] at h ht
              cases io with
              | none => cases ht
              | some l2 =>
               have h3 := iriR_last hi
               dsimp only at h
               subst h
               exact ⟨by omega, h3.2.1, .of (by omega) h3.2.2 (by decide) (by decide)⟩
           · split at h
             · rename_i h64
               have hl := peek_lt (rs := rs) (p := qp) (by omega)
               dsimp only at h
               subst h
               have hw := wordE_le rs [45] (rs.length - (qp + 1)) (qp + 1) (Nat.le_refl _) hl
               exact ⟨by omega, hw.2, word_end (x := 64) rfl rfl hl (by omega) (by rw [show qp + 1 - 1 = qp by omega]; exact h64) (by decide) (by decide) (by decide)⟩
             · dsimp only at h
               subst h
               exact ⟨by omega, h2.2.1, .of (by omega) h2.2.2 (by decide) (by decide)⟩
         · cases h
     · cases h

theorem skip_in (rs : List Int) : ∀ m p, rs.length - p ≤ m → ∀ j, p ≤ j → j < skip rs [0] p → j < rs.length ∧ clsOf (peekOf rs j) = 0
 | m, p, hm, j, h1, h2 => by
  by_cases hc : p < rs.length ∧ [0].contains (clsOf (rs.getD p 0)) = true
  · rw [skip_step hc.1 hc.2] at h2
    by_cases e : j = p
    · subst e
      unfold peekOf
      rw [if_pos hc.1]
      exact ⟨hc.1, by simpa using hc.2⟩
    · cases m with
      | zero => omega
      | succ m => exact skip_in rs m (p + 1) (by omega) j (by omega) h2
  · rw [skip_stop hc] at h2
    omega
/-- The text ends with ' ?y . }'. -/
structure TailIs (rs : List Int) : Prop where
 n : 8 ≤ rs.length
 s1 : peekOf rs (rs.length - 1) = 125
 s2 : peekOf rs (rs.length - 2) = 32
 s3 : peekOf rs (rs.length - 3) = 46
 s4 : peekOf rs (rs.length - 4) = 32
 s5 : peekOf rs (rs.length - 5) = 121
 s6 : peekOf rs (rs.length - 6) = 63
 s7 : peekOf rs (rs.length - 7) = 32
theorem cls_sign {rs : List Int} {i : Nat} {x : Int} (h : peekOf rs i = x) (hx : clsOf x ≠ 0) : ¬ clsOf (peekOf rs i) = 0 := by rw [h]; exact hx
theorem skip_no {rs : List Int} {p j : Nat} {x : Int} (h : peekOf rs j = x) (hx : clsOf x ≠ 0) (h1 : p ≤ j) : skip rs [0] p ≤ j := Classical.byContradiction fun hn => cls_sign h hx (skip_in rs _ p (Nat.le_refl _) j h1 (by omega)).2
theorem end_at {rs : List Int} (T : TailIs rs) {e : Nat} (h : skip rs [0] e = rs.length - 3) (he : e ≤ rs.length) : e = rs.length - 4 ∨ e = rs.length - 3 := by
 have h4 := T.n
 have h5 := (skip_le rs [0] (rs.length - e) e (Nat.le_refl _) he).1
 by_cases e2 : e ≤ rs.length - 5
 · have := skip_no T.s5 (by decide) e2
   omega
 · omega
theorem end_no {rs : List Int} (T : TailIs rs) {e : Nat} (h : skip rs [0] e = rs.length - 3) (he : e ≤ rs.length) (hE : EndP rs e) : False := by
 have h4 := T.n
 rcases end_at T h he with e1 | e1
 · refine hE.2.2 ⟨?_, ?_⟩
   · rw [e1, show rs.length - 4 - 1 = rs.length - 5 by omega]
     exact T.s5
   · rw [e1, show rs.length - 4 - 2 = rs.length - 6 by omega]
     exact T.s6
 · refine hE.2.1 ?_
   rw [e1, show rs.length - 3 - 1 = rs.length - 4 by omega]
   exact T.s4
/-- A var: its letters from a place to a place. -/
structure VarP (rs : List Int) (p f e : Nat) : Prop where
 mark : markAt rs p ⟨#[63]⟩ = true
 from_ : f = markTo rs p ⟨#[63]⟩
 one : clsOf (peekOf rs f) = 1
 end_ : e = wordE rs [95] f
theorem VarP.lt {rs : List Int} {p f e : Nat} (h : VarP rs p f e) : f < rs.length := Classical.byContradiction fun hn => by
 have := h.one
 rw [show peekOf rs f = -1 by unfold peekOf; rw [if_neg hn], show clsOf (-1) = 6 from rfl] at this
 cases this
theorem VarP.pos {rs : List Int} {p f e : Nat} (h : VarP rs p f e) : f < e ∧ e ≤ rs.length := by
 have hl := h.lt
 have hi : inW [95] (rs.getD f 0) = true := by
  have h1 := h.one
  unfold peekOf at h1
  rw [if_pos hl] at h1
  unfold inW
  rw [h1]
  rfl
 rw [h.end_, wordE_step hl hi]
 have := wordE_le rs [95] (rs.length - (f + 1)) (f + 1) (Nat.le_refl _) (by omega)
 omega
theorem var_at {rs : List Int} (T : TailIs rs) {p f e : Nat} (hv : VarP rs p f e) (h : skip rs [0] e = rs.length - 3) : f = rs.length - 5 ∧ e = rs.length - 4 := by
 have h4 := T.n
 have hp := hv.pos
 have hin := word_in rs [95] _ f (Nat.le_refl _)
 rw [← hv.end_] at hin
 rcases end_at T h hp.2 with e1 | e1
 · refine ⟨?_, e1⟩
   by_cases e2 : f ≤ rs.length - 6
   · have := (hin (rs.length - 6) (by omega) (by omega)).2
     rw [T.s6] at this
     cases this
   · omega
 · have := (hin (e - 1) (by omega) (by omega)).2
   rw [e1, show rs.length - 3 - 1 = rs.length - 4 by omega, T.s4] at this
   cases this

/-- A path's tree. -/
inductive PT where
 | leaf (kind : Int) (iri : ByteArray)
 | node (kind : Int) (parts : List PT)
/-- A path's cells, in memory from a block on; ty: the type of its parts. -/
inductive PAt (ty : TypeId) (w : World) (B : Nat) : PT → List Value → Prop
 | leaf (k : Int) (i : ByteArray) : PAt ty w B (.leaf k i) [.int .i64 k, .string i, .slice none 0 0]
 | node (k : Int) (ts : List PT) (A : Option Addr) (c : Nat) (L : List (List Value)) (hL : L.length = ts.length) (hp : ∀ (i : Nat) t l, ts[i]? = some t → L[i]? = some l → PAt ty w B t l) (hr : w.ownsRow B ty 3 (.slice A ts.length c) ts.length L.flatten) :
  PAt ty w B (.node k ts) [.int .i64 k, .string ⟨#[]⟩, .slice A ts.length c]
theorem PAt.fr {ty : TypeId} {w w' : World} {B : Nat} {S : Nat → Prop} (hf : Fr S w w') (hS : ∀ j cs, B ≤ j → Blk w j ty cs → ¬ S j) {t : PT} {l : List Value} (h : PAt ty w B t l) : PAt ty w' B t l := by
 induction h with
 | leaf k i => exact .leaf k i
 | node k ts A c L hL hp hr ih =>
  refine .node k ts A c L hL ih (ownsRow_fr hr hf fun j hj hSj => ?_)
  rcases hr.2 with ⟨h0, _⟩ | ⟨gg, cap, cur, hv, hbg, hh, _⟩
  · rw [h0] at hj
    cases hj
  · rw [hv] at hj
    injection hj with hj
    subst hj
    exact hS gg cur hbg hh hSj
theorem PAt.base {ty : TypeId} {w : World} {B B' : Nat} (hB : B' ≤ B) {t : PT} {l : List Value} (h : PAt ty w B t l) : PAt ty w B' t l := by
 induction h with
 | leaf k i => exact .leaf k i
 | node k ts A c L hL hp hr ih => exact .node k ts A c L hL ih (ownsRow_base hr hB)
theorem PAt.frF {ty : TypeId} {w w' : World} {B : Nat} {t : PT} {l : List Value} (h : PAt ty w B t l) (hf : Fr (fun _ => False) w w') : PAt ty w' B t l := h.fr hf (fun _ _ _ _ h => h)
theorem PAt.frN {ty : TypeId} {w w' : World} {B x : Nat} {t : PT} {l : List Value} (h : PAt ty w B t l) (hx : x < B) (hf : Fr (fun j => j = x) w w') : PAt ty w' B t l := h.fr hf (fun j _ hj _ e => by omega)
theorem PAt.frB {ty : TypeId} {w w' : World} {B x y : Nat} {cs : Array Value} {t : PT} {l : List Value} (h : PAt ty w B t l) (hx : Blk w x y cs) (h1 : y ≠ ty) (hf : Fr (fun j => j = x) w w') : PAt ty w' B t l :=
 h.fr hf (fun j cs' _ hb e => by subst e; exact Blk.ne_ hb hx (fun e => h1 e.symm) rfl)
theorem PAt.cells {ty : TypeId} {w : World} {B : Nat} {t : PT} {l : List Value} (h : PAt ty w B t l) : ∃ (k : Int) (i : ByteArray) (A : Option Addr) (n c : Nat), l = [.int .i64 k, .string i, .slice A n c] := by
 cases h with
 | leaf k i => exact ⟨_, _, _, _, _, rfl⟩
 | node k ts A c L hL hp hr => exact ⟨_, _, _, _, _, rfl⟩

section
variable (rs : List Int)
/-- An IRI behind blanks. -/
def IriP (p e : Nat) (i : ByteArray) : Prop := docR rs (skip rs [0] p) = (some ⟨1, i, ⟨#[]⟩, ⟨#[]⟩⟩, e) ∧ rGood ⟨1, i, ⟨#[]⟩, ⟨#[]⟩⟩ = true
abbrev mk1 (x : UInt8) : ByteArray := ⟨#[x]⟩
inductive AtomP (P : Nat → PT → Nat → Nat → Prop) : Nat → PT → Nat → Nat → Prop
 | paren (p : Nat) (t : PT) (e d : Nat) (h1 : markAt rs p (mk1 40) = true) (h2 : P (markTo rs p (mk1 40)) t e d) (h3 : markAt rs e (mk1 41) = true) : AtomP P p t (markTo rs e (mk1 41)) d
 | back (p e : Nat) (i : ByteArray) (h1 : markAt rs p (mk1 40) = false) (h2 : markAt rs p (mk1 94) = true) (h3 : IriP rs (markTo rs p (mk1 94)) e i) : AtomP P p (.leaf 1 i) e 1
 | step (p e : Nat) (i : ByteArray) (h1 : markAt rs p (mk1 40) = false) (h2 : markAt rs p (mk1 94) = false) (h3 : IriP rs p e i) : AtomP P p (.leaf 0 i) e 1
/-- How often, by the signs that follow; 0: once. -/
def oftenP (e : Nat) : Nat :=
 if markAt rs e (mk1 42) = true then 4 else if markAt rs e (mk1 43) = true then 5 else if markAt rs e (mk1 126) = true then 6 else 0
def oftenX (k : Nat) : UInt8 := if k = 4 then 42 else if k = 5 then 43 else 126
inductive StepP (P : Nat → PT → Nat → Nat → Prop) : Nat → PT → Nat → Nat → Prop
 | plain (p : Nat) (t : PT) (e d : Nat) (h1 : AtomP rs P p t e d) (h2 : oftenP rs e = 0) : StepP P p t e d
 | often (p : Nat) (t : PT) (e d : Nat) (h1 : AtomP rs P p t e d) (h2 : oftenP rs e ≠ 0) : StepP P p (.node (oftenP rs e) [t]) (markTo rs e (mk1 (oftenX (oftenP rs e)))) (d + 1)
/-- Some, with a sign between. -/
inductive RunP (x : UInt8) (One : Nat → PT → Nat → Nat → Prop) : Nat → List PT → Nat → Nat → Prop
 | one (p : Nat) (t : PT) (e d : Nat) (h : One p t e d) : RunP x One p [t] e d
 | more (p : Nat) (ts : List PT) (t : PT) (e d e1 d1 : Nat) (h : RunP x One p ts e d) (h1 : markAt rs e (mk1 x) = true) (h2 : One (markTo rs e (mk1 x)) t e1 d1) : RunP x One p (ts ++ [t]) e1 (max d d1)
inductive SepP (x : UInt8) (k : Int) (One : Nat → PT → Nat → Nat → Prop) : Nat → PT → Nat → Nat → Prop
 | one (p : Nat) (t : PT) (e d : Nat) (h : RunP rs x One p [t] e d) (h2 : markAt rs e (mk1 x) = false) : SepP x k One p t e d
 | many (p : Nat) (ts : List PT) (e d : Nat) (h : RunP rs x One p ts e d) (h1 : 2 ≤ ts.length) (h2 : markAt rs e (mk1 x) = false) : SepP x k One p (.node k ts) e (d + 1)
def SeqP (P : Nat → PT → Nat → Nat → Prop) : Nat → PT → Nat → Nat → Prop := SepP rs 47 2 (StepP rs P)
/-- A path stands at a place: its tree, the place behind it, how deep it is. -/
def PathP : Nat → Nat → PT → Nat → Nat → Prop
 | 0 => fun _ _ _ _ => False
 | n + 1 => SepP rs 124 3 (SeqP rs (PathP n))
/-- No atom stands at a place. -/
inductive NoAtom (P : Nat → PT → Nat → Nat → Prop) (F : Nat → Prop) : Nat → Prop
 | paren (p : Nat) (h1 : markAt rs p (mk1 40) = true) (h2 : F (markTo rs p (mk1 40))) : NoAtom P F p
 | open_ (p : Nat) (t : PT) (e d : Nat) (h1 : markAt rs p (mk1 40) = true) (h2 : P (markTo rs p (mk1 40)) t e d) (h3 : markAt rs e (mk1 41) = false) : NoAtom P F p
 | back (p : Nat) (h1 : markAt rs p (mk1 40) = false) (h2 : markAt rs p (mk1 94) = true) (h3 : ∀ i e, ¬ IriP rs (markTo rs p (mk1 94)) e i) : NoAtom P F p
 | step (p : Nat) (h1 : markAt rs p (mk1 40) = false) (h2 : markAt rs p (mk1 94) = false) (h3 : ∀ i e, ¬ IriP rs p e i) : NoAtom P F p
inductive NoSep (x : UInt8) (One : Nat → PT → Nat → Nat → Prop) (F : Nat → Prop) : Nat → Prop
 | one (p : Nat) (h : F p) : NoSep x One F p
 | more (p : Nat) (ts : List PT) (e d : Nat) (h : RunP rs x One p ts e d) (h1 : markAt rs e (mk1 x) = true) (h2 : F (markTo rs e (mk1 x))) : NoSep x One F p
/-- No path stands at a place. -/
def NoPath : Nat → Nat → Prop
 | 0 => fun _ => False
 | n + 1 => NoSep rs 124 (SeqP rs (PathP rs n)) (NoSep rs 47 (StepP rs (PathP rs n)) (NoAtom rs (PathP rs n) (NoPath n)))
end
/-- How deep a path is. -/
inductive DeepIs : PT → Nat → Prop
 | leaf (k : Int) (i : ByteArray) : DeepIs (.leaf k i) 1
 | node (k : Int) (ts : List PT) (d : Nat) (f : PT → Nat) (u : PT) (h : ∀ t, t ∈ ts → DeepIs t (f t)) (h2 : ∀ t, t ∈ ts → f t ≤ d) (h1 : u ∈ ts) (h3 : DeepIs u d) : DeepIs (.node k ts) (d + 1)
theorem DeepIs.mk {k : Int} {ts : List PT} {d : Nat} (h : ∀ t, t ∈ ts → ∃ m, m ≤ d ∧ DeepIs t m) (h1 : ∃ t, t ∈ ts ∧ DeepIs t d) : DeepIs (.node k ts) (d + 1) := by
 obtain ⟨u, hu, hd⟩ := h1
 classical
 refine .node k ts d (fun t => if ht : t ∈ ts then (h t ht).choose else 0) u (fun t ht => ?_) (fun t ht => ?_) hu hd
 · rw [dif_pos ht]
   exact (h t ht).choose_spec.2
 · rw [dif_pos ht]
   exact (h t ht).choose_spec.1
theorem AtomP.deep {rs : List Int} {P : Nat → PT → Nat → Nat → Prop} (hP : ∀ p t e d, P p t e d → DeepIs t d) {p e d : Nat} {t : PT} (h : AtomP rs P p t e d) : DeepIs t d := by
 cases h with
 | paren _ _ _ h1 h2 h3 => exact hP _ _ _ _ h2
 | back _ _ _ _ _ => exact .leaf _ _
 | step _ _ _ _ _ => exact .leaf _ _
theorem StepP.deep {rs : List Int} {P : Nat → PT → Nat → Nat → Prop} (hP : ∀ p t e d, P p t e d → DeepIs t d) {p e d : Nat} {t : PT} (h : StepP rs P p t e d) : DeepIs t d := by
 cases h with
 | plain _ _ _ h1 h2 => exact h1.deep hP
 | often t _ _ h1 h2 =>
  exact DeepIs.mk (fun u hu => by rw [List.mem_singleton.1 hu]; exact ⟨_, Nat.le_refl _, h1.deep hP⟩) ⟨t, List.mem_singleton.2 rfl, h1.deep hP⟩
theorem RunP.deep {rs : List Int} {x : UInt8} {One : Nat → PT → Nat → Nat → Prop} (hP : ∀ p t e d, One p t e d → DeepIs t d) {p e d : Nat} {ts : List PT} (h : RunP rs x One p ts e d) : (∀ t, t ∈ ts → ∃ m, m ≤ d ∧ DeepIs t m) ∧ ∃ t, t ∈ ts ∧ DeepIs t d := by
 induction h with
 | one t e d h => exact ⟨fun u hu => by rw [List.mem_singleton.1 hu]; exact ⟨_, Nat.le_refl _, hP _ _ _ _ h⟩, ⟨t, List.mem_singleton.2 rfl, hP _ _ _ _ h⟩⟩
 | more ts t e d e1 d1 h h1 h2 ih =>
  obtain ⟨i1, u, hu, i2⟩ := ih
  have h3 := hP _ _ _ _ h2
  refine ⟨fun v hv => ?_, ?_⟩
  · rcases List.mem_append.1 hv with hv | hv
    · obtain ⟨m, hm, hd⟩ := i1 v hv
      exact ⟨m, by omega, hd⟩
    · rw [List.mem_singleton.1 hv]
      exact ⟨d1, by omega, h3⟩
  · by_cases hd : d1 ≤ d
    · exact ⟨u, List.mem_append.2 (.inl hu), by rw [show max d d1 = d by omega]; exact i2⟩
    · exact ⟨t, List.mem_append.2 (.inr (List.mem_singleton.2 rfl)), by rw [show max d d1 = d1 by omega]; exact h3⟩
theorem SepP.deep {rs : List Int} {x : UInt8} {k : Int} {One : Nat → PT → Nat → Nat → Prop} (hP : ∀ p t e d, One p t e d → DeepIs t d) {p e d : Nat} {t : PT} (h : SepP rs x k One p t e d) : DeepIs t d := by
 cases h with
 | one _ _ _ h h2 =>
  obtain ⟨_, u, hu, hd⟩ := h.deep hP
  rw [List.mem_singleton.1 hu] at hd
  exact hd
 | many _ _ _ h h1 h2 =>
  obtain ⟨a, b⟩ := h.deep hP
  exact DeepIs.mk a b
theorem PathP.deep {rs : List Int} : ∀ {n p e d : Nat} {t : PT}, PathP rs n p t e d → DeepIs t d
 | n + 1, _, _, _, _, h => SepP.deep (fun _ _ _ _ h1 => SepP.deep (fun _ _ _ _ h2 => StepP.deep (fun _ _ _ _ h3 => PathP.deep h3) h2) h1) h
theorem DeepIs.pos {t : PT} {d : Nat} (h : DeepIs t d) : 1 ≤ d := by
 cases h <;> omega

theorem inW_letter (x : Int) : inW [95] x = letterOf x := by
 unfold inW letterOf
 rw [Bool.eq_iff_iff]
 simp
theorem markTo_yes {rs : List Int} {p : Nat} {T : ByteArray} (h : markAt rs p T = true) : markTo rs p T = skip rs [0] p + T.size := by
 unfold markTo
 rw [if_pos h]
theorem mark_one {rs : List Int} {p : Nat} {x : UInt8} (h : markAt rs p ⟨#[x]⟩ = true) : peekOf rs (skip rs [0] p) = (x.toNat : Int) := by
 unfold markAt at h
 rw [isAt_one] at h
 exact of_decide_eq_true h
theorem mark_in {rs : List Int} {p : Nat} {x : UInt8} (h : markAt rs p ⟨#[x]⟩ = true) (hp : p ≤ rs.length) : markTo rs p ⟨#[x]⟩ = skip rs [0] p + 1 ∧ p < markTo rs p ⟨#[x]⟩ ∧ markTo rs p ⟨#[x]⟩ ≤ rs.length := by
 have h1 := mark_one h
 have h2 := markTo_yes h
 have h3 := (skip_le rs [0] (rs.length - p) p (Nat.le_refl _) hp).1
 have h4 : skip rs [0] p < rs.length := peek_lt (by omega)
 have h5 : (⟨#[x]⟩ : ByteArray).size = 1 := rfl
 omega
def VarPost (rs : List Int) (p : Nat) (w : World) (e : Ending) (w' : World) : Prop :=
 ((∃ f q, VarP rs p f q ∧ e = .returned (.tuple #[.string (strL (part rs f q)), .int .i64 (q : Int)])) ∨ ((∀ f q, ¬ VarP rs p f q) ∧ e = .returned (.tuple #[.string ⟨#[]⟩, .int .i64 (-1)]))) ∧ Fr (fun _ => False) w w'
theorem rvar_neg (v : Value) (w : World) : Calls Tryz.prog 31 #[v, .int .i64 (-1)] w fun e w' => e = .returned (.tuple #[.string ⟨#[]⟩, .int .i64 (-1)]) ∧ w = w' := by
 have HM := Lib.hid (rmark_neg ⟨#[63]⟩ v w)
 go_enter Tryz.func31, Tryz.ntmps31
 go_wp2_with fail
 refine HM.out.mono ?_
 rintro e w1 ⟨rfl, rfl⟩
 go_wp2_with fail
 go_ret2
 exact ⟨rfl, rfl⟩

theorem rvar_any (g c p : Nat) (rs : List Int) (w : World) (hl : rs.length ≤ 8100) (hv : ∀ r, r ∈ rs → signR r = true) (hp : p ≤ rs.length) (h : Ls w g c rs) :
    Calls Tryz.prog 31 #[.slice (some ⟨g, 0, none⟩) rs.length c, .int .i64 (p : Int)] w (VarPost rs p w) := by
 have hm := rmark_any ⟨#[63]⟩ g c p rs w (by decide) hl hv hp h
 unfold mkI at hm
 have HL := Lib.hid (fun q hq => rletter2_any g c q rs w hl hv hq h)
 have hcap := h.cap
 cases hma : markAt rs p ⟨#[63]⟩ with
 | false =>
  rw [hma] at hm
  simp only [Bool.false_eq_true, if_false] at hm
  have HM := Lib.hid hm
  have HNO := Lib.hid (show ∀ f q, ¬ VarP rs p f q from fun f q hx => by have h1 := hx.mark; rw [hma] at h1; cases h1)
  clear hm hma h hv HL
  go_enter Tryz.func31, Tryz.ntmps31
  go_wp2_with fail
  refine HM.out.mono ?_
  rintro e w1 ⟨rfl, rfl⟩
  go_wp2_with fail
  go_ret2
  exact ⟨.inr ⟨HNO.out, rfl⟩, Fr.refl _ _⟩
 | true =>
  rw [hma] at hm
  simp only [if_true] at hm
  have HM := Lib.hid hm
  have hmi := (mark_in hma hp).2
  obtain ⟨f, hf⟩ : ∃ f, f = markTo rs p ⟨#[63]⟩ := ⟨_, rfl⟩
  rw [← hf] at HM hmi
  have HVP := Lib.hid (fun q h1 h2 => VarP.mk (rs := rs) (p := p) (f := f) (e := q) hma hf h1 h2)
  have HNV := Lib.hid (show ∀ f' q, VarP rs p f' q → clsOf (peekOf rs f) = 1 ∧ f < rs.length from fun f' q hx => by
   have h2 := hx.one
   have h3 := hx.lt
   rw [hx.from_, ← hf] at h2 h3
   exact ⟨h2, h3⟩)
  have hf0 : ¬ ((f : Int) < 0) := by omega
  clear hm hma hf
  by_cases hfl : f < rs.length
  · have hfi : ¬ ((f : Int) ≥ (rs.length : Int)) := by omega
    have hfi2 : decide (rs.length ≤ f) = false := decide_eq_false (by omega)
    have c0 := h.cell hfl
    have hcl := clsR (sign_peek hv hfl)
    have HC := Lib.hid (fun w1 => rclass_any (peekOf rs f) w1)
    have HCL := Lib.hid hcl
    have HS := Lib.hid h
    have HV := Lib.hid hv
    have HPK := Lib.hid (show peekOf rs f = rs.getD f 0 by unfold peekOf; rw [if_pos hfl])
    clear hcl h hv
    by_cases k1 : rClass (peekOf rs f) = 1
    · have h1 : clsOf (peekOf rs f) = 1 := HCL.out.trans k1
      have hin : inW [95] (rs.getD f 0) = true := by
       rw [← HPK.out]
       unfold inW
       rw [h1]
       rfl
      have hws := wordE_step (rs := rs) (ms := [95]) hfl hin
      have hwl := wordE_le rs [95] (rs.length - (f + 1)) (f + 1) (Nat.le_refl _) (by omega)
      rw [← hws] at hwl
      obtain ⟨q, hq⟩ : ∃ q, q = wordE rs [95] f := ⟨_, rfl⟩
      rw [← hq] at hwl
      have HP := Lib.hid (HVP.out q h1 hq)
      have HQ := Lib.hid hq
      have HSUB := Lib.hid (sub_text (p := f) (q := q) (by omega) hwl.2 hcap HS.out HV.out hl)
      rw [k1] at HC
      generalize peekOf rs f = rf at *
      clear h1 hin hws hq k1 HVP HCL HPK HNV
      go_enter Tryz.func31, Tryz.ntmps31
      go_wp2_with fail
      refine HM.out.mono ?_
      rintro e w1 ⟨rfl, rfl⟩
      go_wp2_with fail
      refine (HC.out _).mono ?_
      rintro e w1 ⟨rfl, rfl⟩
      go_wp2_with fail
      clear c0
      go_loopg [6] (rs.length) (fun gk a wr => ∃ i : Nat, a = .int .i64 (i : Int) ∧ rs.length ≤ i + gk ∧ f ≤ i ∧ i ≤ rs.length ∧ wordE rs [95] i = q ∧ w = wr)
      case atStart => exact ⟨f, rfl, by omega, Nat.le_refl _, by omega, HQ.out.symm, rfl⟩
      case round =>
       obtain ⟨i, rfl, hg, hfi3, hi, hwe, rfl⟩ := hrel
       have HWE := Lib.hid hwe
       clear hwe
       have hlt := HL.out i (by omega)
       by_cases hc : i < rs.length ∧ inW [95] (rs.getD i 0) = true
       · have hpk : peekOf rs i = rs.getD i 0 := by unfold peekOf; rw [if_pos hc.1]
         rw [hpk, ← inW_letter, hc.2] at hlt
         have HLT := Lib.hid hlt
         have HN := Lib.hid ((wordE_step hc.1 hc.2).symm.trans HWE.out)
         have hil := hc.1
         clear hlt hc hpk
         go_wp2_with fail
         refine HLT.out.mono ?_
         rintro e w2 ⟨rfl, rfl⟩
         go_wp2_with fail
         go_roundg (rs.length - (i + 1))
         case measure => omega
         case rel => exact ⟨i + 1, rfl, by omega, by omega, by omega, HN.out, rfl⟩
       · have hqi : i = q := (wordE_stop hc).symm.trans HWE.out
         have hno : letterOf (peekOf rs i) = false := by
          cases hx : letterOf (peekOf rs i) with
          | false => rfl
          | true =>
           exfalso
           by_cases hil : i < rs.length
           · refine hc ⟨hil, ?_⟩
             rw [inW_letter]
             unfold peekOf at hx
             rw [if_pos hil] at hx
             exact hx
           · rw [peek_past hil] at hx
             cases hx
         rw [hno] at hlt
         have HLT := Lib.hid hlt
         subst hqi
         clear hlt hc hno
         go_wp2_with fail
         refine HLT.out.mono ?_
         rintro e w2 ⟨rfl, rfl⟩
         go_wp2_with fail
         all_goals (refine (HSUB.out _ _ (by omega) (by omega)).mono ?_; rintro e w4 ⟨rfl, hf4⟩; go_wp2_with fail; go_ret2; exact ⟨.inl ⟨_, _, HP.out, rfl⟩, hf4⟩)
    · have b1 : (rClass (peekOf rs f) != 1) = true := by simpa using k1
      have HNO := Lib.hid (show ∀ f q, ¬ VarP rs p f q from fun f' q hx => k1 (HCL.out.symm.trans (HNV.out f' q hx).1))
      clear HNV
      generalize rClass (peekOf rs f) = k at *
      generalize peekOf rs f = rf at *
      clear k1 HCL HVP HL
      go_enter Tryz.func31, Tryz.ntmps31
      go_wp2_with fail
      refine HM.out.mono ?_
      rintro e w1 ⟨rfl, rfl⟩
      go_wp2_with fail
      refine (HC.out _).mono ?_
      rintro e w1 ⟨rfl, rfl⟩
      go_wp2_with fail
      go_ret2
      exact ⟨.inr ⟨HNO.out, rfl⟩, Fr.refl _ _⟩
  · have hfi : (f : Int) ≥ (rs.length : Int) := by omega
    have hfi2 : decide (rs.length ≤ f) = true := decide_eq_true (by omega)
    have HNO := Lib.hid (show ∀ f q, ¬ VarP rs p f q from fun f' q hx => hfl (HNV.out f' q hx).2)
    clear h hv HL HVP HNV
    go_enter Tryz.func31, Tryz.ntmps31
    go_wp2_with fail
    refine HM.out.mono ?_
    rintro e w1 ⟨rfl, rfl⟩
    go_wp2_with fail
    go_ret2
    exact ⟨.inr ⟨HNO.out, rfl⟩, Fr.refl _ _⟩
theorem docR_iri {rs : List Int} {p e : Nat} {x : DT} (h : docR rs p = (some x, e)) (hk : x.kind = 1) : x = ⟨1, x.text, ⟨#[]⟩, ⟨#[]⟩⟩ := by
 unfold docR at h
 split at h
 · cases hi : iriR rs p with
   | mk io ip =>
    rw [hi] at h
    cases io with
    | none => cases h
    | some l =>
     injection h with h _
     injection h with h
     rw [← h]
 · split at h
   · split at h
     · injection h with h _
       injection h with h
       rw [← h] at hk
       cases hk
     · cases h
   · split at h
     · cases hq : quotR rs p with
       | mk qo qp =>
        rw [hq] at h
        cases qo with
        | none => cases h
        | some l =>
         dsimp only at h
         split at h
         · injection h with h _
           injection h with h
           rw [← h] at hk
           cases hk
         · cases h
     · cases h
def IriPostR (rs : List Int) (p : Nat) (w : World) (e : Ending) (w' : World) : Prop :=
 ((∃ i q, IriP rs p q i ∧ e = .returned (.tuple #[.string i, .int .i64 (q : Int)])) ∨ ((∀ i q, ¬ IriP rs p q i) ∧ e = .returned (.tuple #[.string ⟨#[]⟩, .int .i64 (-1)]))) ∧ Fr (fun _ => False) w w'
theorem riri3_any (g c p : Nat) (rs : List Int) (w : World) (hl : rs.length ≤ 8100) (hw : wt rs ≤ 8100) (hv : ∀ r, r ∈ rs → signR r = true) (hp : p ≤ rs.length) (h : Ls w g c rs) :
    Calls Tryz.prog 26 #[.slice (some ⟨g, 0, none⟩) rs.length c, .int .i64 (p : Int)] w (IriPostR rs p w) := by
 have HB := Lib.hid (rblanks_any g c p rs w hl hv hp h)
 have hle := (skip_le rs [0] (rs.length - p) p (Nat.le_refl _) hp).2
 have hrd := rread_any g c (skip rs [0] p) rs w hl hw hv hle h
 have HIP := Lib.hid (fun q i h1 h2 => (show IriP rs p q i from ⟨h1, h2⟩))
 have HNI := Lib.hid (fun i q (hx : IriP rs p q i) => (show docR rs (skip rs [0] p) = (some ⟨1, i, ⟨#[]⟩, ⟨#[]⟩⟩, q) ∧ rGood ⟨1, i, ⟨#[]⟩, ⟨#[]⟩⟩ = true from hx))
 have HKI := Lib.hid (fun e x h1 h2 => docR_iri (rs := rs) (p := skip rs [0] p) (e := e) (x := x) h1 h2)
 have hp0 : ¬ ((p : Int) < 0) := by omega
 unfold docV at hrd
 generalize hdr : docR rs (skip rs [0] p) = dr at *
 generalize skip rs [0] p = q0 at *
 clear h hv
 obtain ⟨xo, q⟩ := dr
 cases xo with
 | none =>
  dsimp only at hrd
  have HRD := Lib.hid hrd
  have HNO := Lib.hid (show ∀ i q, ¬ IriP rs p q i from fun i q hx => by have h := (HNI.out i q hx).1; cases h)
  clear hrd hdr HIP HKI HNI
  go_enter Tryz.func26, Tryz.ntmps26
  go_wp2_with fail
  refine HB.out.mono ?_
  rintro e w1 ⟨rfl, rfl⟩
  go_wp2_with fail
  refine HRD.out.mono ?_
  rintro e w2 ⟨rfl, hf2⟩
  have HF2 := Lib.hid (hf2.alloc (.cells #[.int .i64 0, .string ⟨#[]⟩, .string ⟨#[]⟩, .string ⟨#[]⟩] 34))
  clear hf2
  go_wp2_with fail
  go_ret2
  exact ⟨.inr ⟨HNO.out, rfl⟩, HF2.out⟩
 | some x =>
  dsimp only at hrd
  cases hg : rGood x with
  | false =>
   rw [hg, if_neg Bool.false_ne_true] at hrd
   have HRD := Lib.hid hrd
   have HNO := Lib.hid (show ∀ i q, ¬ IriP rs p q i from fun i q hx => by
    obtain ⟨h1, h2⟩ := HNI.out i q hx
    injection h1 with h1 _
    injection h1 with h1
    rw [h1, h2] at hg
    cases hg)
   clear hrd hdr HIP HKI hg HNI
   go_enter Tryz.func26, Tryz.ntmps26
   go_wp2_with fail
   refine HB.out.mono ?_
   rintro e w1 ⟨rfl, rfl⟩
   go_wp2_with fail
   refine HRD.out.mono ?_
   rintro e w2 ⟨rfl, hf2⟩
   have HF2 := Lib.hid (hf2.alloc (.cells #[.int .i64 0, .string ⟨#[]⟩, .string ⟨#[]⟩, .string ⟨#[]⟩] 34))
   clear hf2
   go_wp2_with fail
   go_ret2
   exact ⟨.inr ⟨HNO.out, rfl⟩, HF2.out⟩
  | true =>
   rw [hg, if_pos rfl] at hrd
   obtain ⟨k, a, b, d⟩ := x
   unfold DT.cells at hrd
   dsimp only at hrd
   have HRD := Lib.hid hrd
   by_cases hk : k = 1
   · have h1 := HKI.out _ _ rfl hk
     injection h1 with h2 _ h3 h4
     subst h2 h3 h4
     have HP := Lib.hid (HIP.out _ _ rfl hg)
     clear hrd hdr HIP HKI hg HNI
     go_enter Tryz.func26, Tryz.ntmps26
     go_wp2_with fail
     refine HB.out.mono ?_
     rintro e w1 ⟨rfl, rfl⟩
     go_wp2_with fail
     refine HRD.out.mono ?_
     rintro e w2 ⟨rfl, hf2⟩
     have HF2 := Lib.hid (hf2.alloc (.cells #[.int .i64 1, .string a, .string ⟨#[]⟩, .string ⟨#[]⟩] 34))
     clear hf2
     go_wp2_with fail
     go_ret2
     exact ⟨.inl ⟨_, _, HP.out, rfl⟩, HF2.out⟩
   · have bk : (k != 1) = true := by simpa using hk
     have HNO := Lib.hid (show ∀ i q, ¬ IriP rs p q i from fun i q hx => by
      obtain ⟨h1, h2⟩ := HNI.out i q hx
      injection h1 with h1 _
      injection h1 with h1
      injection h1 with h1
      exact hk h1)
     clear hrd hdr HIP HKI hg hk HNI
     go_enter Tryz.func26, Tryz.ntmps26
     go_wp2_with fail
     refine HB.out.mono ?_
     rintro e w1 ⟨rfl, rfl⟩
     go_wp2_with fail
     refine HRD.out.mono ?_
     rintro e w2 ⟨rfl, hf2⟩
     have HF2 := Lib.hid (hf2.alloc (.cells #[.int .i64 k, .string a, .string b, .string d] 34))
     clear hf2
     go_wp2_with fail
     go_ret2
     exact ⟨.inr ⟨HNO.out, rfl⟩, HF2.out⟩

theorem IriP.pos {rs : List Int} (hv : ∀ r, r ∈ rs → signR r = true) {p q : Nat} {i : ByteArray} (hp : p ≤ rs.length) (h : IriP rs p q i) : p < q ∧ q ≤ rs.length := by
 have h1 := skip_le rs [0] (rs.length - p) p (Nat.le_refl _) hp
 have h2 := docR_last hv h1.2 h.1
 omega
abbrev pv (k : Int) (i : ByteArray) (A : Option Addr) (n c : Nat) : Value := .agg #[.int .i64 k, .string i, .slice A n c]
def zero39 : List Value := [.int .i64 0, .string ⟨#[]⟩, .slice none 0 0]
theorem inf39 : (Tryz.prog.info? 39).map (·.size) = some 3 := by kernel_rfl
theorem one39 (k : Int) (i : ByteArray) (A : Option Addr) (n c : Nat) : (#[.int .i64 k, .string i, .slice A n c] : Array Value).all (·.oneCell') = true := all_oneCell_toArray (cs := [.int .i64 k, .string i, .slice A n c]) (by
 intro v hv
 simp only [List.mem_cons, List.not_mem_nil, or_false] at hv
 rcases hv with rfl | rfl | rfl <;> rfl)
/-- No path: some value, below 0. -/
def PFail (rs : List Int) (F : Nat → Prop) (p : Nat) (e : Ending) : Prop := ∃ (k : Int) (i : ByteArray) (A : Option Addr) (n c d : Nat), F p ∧ d ≤ rs.length - p + 1 ∧ e = .returned (.tuple #[pv k i A n c, .int .i64 (-1), .int .i64 (d : Int)])
def POk (rs : List Int) (P : Nat → PT → Nat → Nat → Prop) (p B : Nat) (w' : World) (e : Ending) : Prop :=
 ∃ (t : PT) (k : Int) (i : ByteArray) (A : Option Addr) (n c q d : Nat), P p t q d ∧ d + p ≤ q ∧ q ≤ rs.length ∧ 1 ≤ d ∧ PAt 39 w' B t [.int .i64 k, .string i, .slice A n c] ∧ e = .returned (.tuple #[pv k i A n c, .int .i64 (q : Int), .int .i64 (d : Int)])
def PathPost (rs : List Int) (P : Nat → PT → Nat → Nat → Prop) (F : Nat → Prop) (p : Nat) (w : World) (e : Ending) (w' : World) : Prop := (PFail rs F p e ∨ POk rs P p w.heap.size w' e) ∧ Fr (fun _ => False) w w'

theorem ratom_iri (P : Nat → PT → Nat → Nat → Prop) (F : Nat → Prop) (g c p : Nat) (rs : List Int) (w : World) (hl : rs.length ≤ 8100) (hw : wt rs ≤ 8100) (hv : ∀ r, r ∈ rs → signR r = true) (hp : p ≤ rs.length) (h : Ls w g c rs) (h40 : markAt rs p (mk1 40) = false) :
    Calls Tryz.prog 192 #[.slice (some ⟨g, 0, none⟩) rs.length c, .int .i64 (p : Int)] w (PathPost rs (AtomP rs P) (NoAtom rs P F) p w) := by
 have f0 : Fr (fun _ => False) w (w.alloc (.cells #[.int .i64 0, .string ⟨#[]⟩, .slice none 0 0] 39)) := (Fr.refl _ _).alloc _
 have hb := Blk.new w 39 #[.int .i64 0, .string ⟨#[]⟩, .slice none 0 0]
 have HB := Lib.hid (show Blk (w.alloc (.cells #[.int .i64 0, .string ⟨#[]⟩, .slice none 0 0] 39)) w.heap.size 39 zero39.toArray from hb)
 have HF := Lib.hid f0
 have hs := h.frF f0
 have hm1 := rmark_any ⟨#[40]⟩ g c p rs _ (by decide) hl hv hp hs
 have hm2 := rmark_any ⟨#[94]⟩ g c p rs _ (by decide) hl hv hp hs
 unfold mkI at hm1 hm2
 rw [show markAt rs p ⟨#[40]⟩ = false from h40] at hm1
 simp only [Bool.false_eq_true, if_false] at hm1
 have HM1 := Lib.hid hm1
 have HS := Lib.hid hs
 cases h94 : markAt rs p ⟨#[94]⟩ with
 | true =>
  rw [h94] at hm2
  simp only [if_true] at hm2
  have HM2 := Lib.hid hm2
  have hmi := (mark_in h94 hp).2
  have HAT := Lib.hid (fun q i h3 => AtomP.back (rs := rs) (P := P) p q i h40 h94 h3)
  have HNO := Lib.hid (fun h3 => NoAtom.back (rs := rs) (P := P) (F := F) p h40 h94 h3)
  unfold mk1 at HAT HNO
  generalize markTo rs p ⟨#[94]⟩ = p2 at *
  have HI := Lib.hid (riri3_any g c p2 rs _ hl hw hv hmi.2 HS.out)
  have HIP := Lib.hid (fun q i (h3 : IriP rs p2 q i) => h3.pos hv hmi.2)
  have hp2 : (0 : Int) ≤ (p2 : Int) := by omega
  unfold IriPostR at HI
  clear hm1 hm2 h94 h40 h hs hb f0 hw hv
  go_enter Tryz.func192, Tryz.ntmps192
  go_wp2_with fail
  refine HM1.out.mono ?_
  rintro e w1 ⟨rfl, rfl⟩
  generalize w.alloc (.cells #[.int .i64 0, .string ⟨#[]⟩, .slice none 0 0] 39) = w0 at *
  go_wp2_with fail
  refine HM2.out.mono ?_
  rintro e w1 ⟨rfl, rfl⟩
  go_wp2_with fail
  refine HI.out.mono ?_
  rintro e w2 ⟨hc, hf2⟩
  have HB2 := Lib.hid (HB.out.fr hf2 (fun h => h))
  have HF2 := Lib.hid ((HF.out.trans' hf2).mono (T := fun j => w.heap.size ≤ j) (fun _ _ h => h.elim))
  clear hf2
  rcases hc with ⟨i, q, hip, rfl⟩ | ⟨hno, rfl⟩
  · have hpos := HIP.out q i hip
    have HP := Lib.hid (HAT.out q i hip)
    clear hip
    have hst := Blk.setAll (vs := [.int .i64 1, .string i, .slice none 0 0]) (old := zero39) HB2.out rfl
    have HTH := Lib.hid (Blk.there (cs := zero39) HB2.out (n := 3) rfl)
    have HST := Lib.hid hst.1
    have HFF := Lib.hid ((HF2.out.trans hst.2 (fun j hj e => by omega)).shut (Nat.le_refl _))
    have hl1 := HB2.out.lt
    clear hst
    go_wp2_with (refine wpList_store_mid rfl 39 _ _ rfl _ _ _ rfl rfl HTH.out inf39 (one39 _ _ _ _ _) ?_)
    exact bodyPost_ret (v := .tuple #[pv 1 i none 0 0, .int .i64 (q : Int), .int .i64 1]) (results_e3 rfl _ _ w.heap.size 39 _ (0, 0) _ rfl HST.out Tryz.underlying39 rfl (by kernel_rfl) _ _ rfl rfl) rfl ⟨.inr ⟨_, _, _, _, _, _, _, 1, HP.out, by omega, hpos.2, Nat.le_refl _, .leaf _ _, rfl⟩, HFF.out⟩
  · have HNN := Lib.hid (HNO.out hno)
    clear hno HNO
    have hst := Blk.setAll (vs := [.int .i64 1, .string ⟨#[]⟩, .slice none 0 0]) (old := zero39) HB2.out rfl
    have HTH := Lib.hid (Blk.there (cs := zero39) HB2.out (n := 3) rfl)
    have HST := Lib.hid hst.1
    have HFF := Lib.hid ((HF2.out.trans hst.2 (fun j hj e => by omega)).shut (Nat.le_refl _))
    have hl1 := HB2.out.lt
    clear hst
    go_wp2_with (refine wpList_store_mid rfl 39 _ _ rfl _ _ _ rfl rfl HTH.out inf39 (one39 _ _ _ _ _) ?_)
    exact bodyPost_ret (v := .tuple #[pv 1 ⟨#[]⟩ none 0 0, .int .i64 (-1), .int .i64 1]) (results_e3 rfl _ _ w.heap.size 39 _ (0, 0) _ rfl HST.out Tryz.underlying39 rfl (by kernel_rfl) _ _ rfl rfl) rfl ⟨.inl ⟨_, _, _, _, _, 1, HNN.out, by omega, rfl⟩, HFF.out⟩
 | false =>
  rw [h94] at hm2
  simp only [Bool.false_eq_true, if_false] at hm2
  have HM2 := Lib.hid hm2
  have HAT := Lib.hid (fun q i h3 => AtomP.step (rs := rs) (P := P) p q i h40 h94 h3)
  have HNO := Lib.hid (fun h3 => NoAtom.step (rs := rs) (P := P) (F := F) p h40 h94 h3)
  have HI := Lib.hid (riri3_any g c p rs _ hl hw hv hp HS.out)
  have HIP := Lib.hid (fun q i (h3 : IriP rs p q i) => h3.pos hv hp)
  unfold IriPostR at HI
  clear hm1 hm2 h94 h40 h hs hb f0 hw hv
  go_enter Tryz.func192, Tryz.ntmps192
  go_wp2_with fail
  refine HM1.out.mono ?_
  rintro e w1 ⟨rfl, rfl⟩
  generalize w.alloc (.cells #[.int .i64 0, .string ⟨#[]⟩, .slice none 0 0] 39) = w0 at *
  go_wp2_with fail
  refine HM2.out.mono ?_
  rintro e w1 ⟨rfl, rfl⟩
  go_wp2_with fail
  refine HI.out.mono ?_
  rintro e w2 ⟨hc, hf2⟩
  have HB2 := Lib.hid (HB.out.fr hf2 (fun h => h))
  have HF2 := Lib.hid ((HF.out.trans' hf2).mono (T := fun j => w.heap.size ≤ j) (fun _ _ h => h.elim))
  clear hf2
  rcases hc with ⟨i, q, hip, rfl⟩ | ⟨hno, rfl⟩
  · have hpos := HIP.out q i hip
    have HP := Lib.hid (HAT.out q i hip)
    clear hip
    have hst := Blk.setAll (vs := [.int .i64 0, .string i, .slice none 0 0]) (old := zero39) HB2.out rfl
    have HTH := Lib.hid (Blk.there (cs := zero39) HB2.out (n := 3) rfl)
    have HST := Lib.hid hst.1
    have HFF := Lib.hid ((HF2.out.trans hst.2 (fun j hj e => by omega)).shut (Nat.le_refl _))
    have hl1 := HB2.out.lt
    clear hst
    go_wp2_with (refine wpList_store_mid rfl 39 _ _ rfl _ _ _ rfl rfl HTH.out inf39 (one39 _ _ _ _ _) ?_)
    exact bodyPost_ret (v := .tuple #[pv 0 i none 0 0, .int .i64 (q : Int), .int .i64 1]) (results_e3 rfl _ _ w.heap.size 39 _ (0, 0) _ rfl HST.out Tryz.underlying39 rfl (by kernel_rfl) _ _ rfl rfl) rfl ⟨.inr ⟨_, _, _, _, _, _, _, 1, HP.out, by omega, hpos.2, Nat.le_refl _, .leaf _ _, rfl⟩, HFF.out⟩
  · have HNN := Lib.hid (HNO.out hno)
    clear hno HNO
    have hst := Blk.setAll (vs := [.int .i64 0, .string ⟨#[]⟩, .slice none 0 0]) (old := zero39) HB2.out rfl
    have HTH := Lib.hid (Blk.there (cs := zero39) HB2.out (n := 3) rfl)
    have HST := Lib.hid hst.1
    have HFF := Lib.hid ((HF2.out.trans hst.2 (fun j hj e => by omega)).shut (Nat.le_refl _))
    have hl1 := HB2.out.lt
    clear hst
    go_wp2_with (refine wpList_store_mid rfl 39 _ _ rfl _ _ _ rfl rfl HTH.out inf39 (one39 _ _ _ _ _) ?_)
    exact bodyPost_ret (v := .tuple #[pv 0 ⟨#[]⟩ none 0 0, .int .i64 (-1), .int .i64 1]) (results_e3 rfl _ _ w.heap.size 39 _ (0, 0) _ rfl HST.out Tryz.underlying39 rfl (by kernel_rfl) _ _ rfl rfl) rfl ⟨.inl ⟨_, _, _, _, _, 1, HNN.out, by omega, rfl⟩, HFF.out⟩

theorem ratom_paren (P : Nat → PT → Nat → Nat → Prop) (F : Nat → Prop) (g c p : Nat) (rs : List Int) (w : World) (hl : rs.length ≤ 8100) (hv : ∀ r, r ∈ rs → signR r = true) (hp : p ≤ rs.length) (h : Ls w g c rs) (h40 : markAt rs p (mk1 40) = true)
    (HP : ∀ (q : Nat) (w1 : World), p < q → q ≤ rs.length → Ls w1 g c rs → Calls Tryz.prog 124 #[.slice (some ⟨g, 0, none⟩) rs.length c, .int .i64 (q : Int)] w1 (PathPost rs P F q w1)) :
    Calls Tryz.prog 192 #[.slice (some ⟨g, 0, none⟩) rs.length c, .int .i64 (p : Int)] w (PathPost rs (AtomP rs P) (NoAtom rs P F) p w) := by
 have f0 : Fr (fun _ => False) w (w.alloc (.cells #[.int .i64 0, .string ⟨#[]⟩, .slice none 0 0] 39)) := (Fr.refl _ _).alloc _
 have hb := Blk.new w 39 #[.int .i64 0, .string ⟨#[]⟩, .slice none 0 0]
 have HB := Lib.hid (show Blk (w.alloc (.cells #[.int .i64 0, .string ⟨#[]⟩, .slice none 0 0] 39)) w.heap.size 39 zero39.toArray from hb)
 have HF := Lib.hid f0
 have hs := h.frF f0
 have hm1 := rmark_any ⟨#[40]⟩ g c p rs _ (by decide) hl hv hp hs
 unfold mkI at hm1
 rw [show markAt rs p ⟨#[40]⟩ = true from h40] at hm1
 simp only [if_true] at hm1
 have HM1 := Lib.hid hm1
 have HS := Lib.hid hs
 have hmi := (mark_in h40 hp).2
 have HAT := Lib.hid (fun t e d h2 h3 => AtomP.paren (rs := rs) (P := P) p t e d h40 h2 h3)
 have HN1 := Lib.hid (fun h2 => NoAtom.paren (rs := rs) (P := P) (F := F) p h40 h2)
 have HN2 := Lib.hid (fun t e d h2 h3 => NoAtom.open_ (rs := rs) (P := P) (F := F) p t e d h40 h2 h3)
 unfold mk1 at HAT HN1 HN2
 obtain ⟨p2, hp2⟩ : ∃ x, x = markTo rs p ⟨#[40]⟩ := ⟨_, rfl⟩
 rw [← hp2] at HM1 HAT hmi HN1 HN2
 have HPP := Lib.hid (HP p2 _ hmi.1 hmi.2 HS.out)
 have hp20 : (0 : Int) ≤ (p2 : Int) := by omega
 have HMN := Lib.hid (fun w1 => rmark_neg ⟨#[41]⟩ (.slice (some ⟨g, 0, none⟩) rs.length c) w1)
 have HMQ := Lib.hid (fun q w1 (hq : q ≤ rs.length) h1 => rmark_any ⟨#[41]⟩ g c q rs w1 (by decide) hl hv hq h1)
 unfold mkI at HMQ
 unfold PathPost at HPP
 clear hm1 h40 h hs hb f0 hv hp2 HP
 go_enter Tryz.func192, Tryz.ntmps192
 go_wp2_with fail
 refine HM1.out.mono ?_
 rintro e w1 ⟨rfl, rfl⟩
 generalize w.alloc (.cells #[.int .i64 0, .string ⟨#[]⟩, .slice none 0 0] 39) = w0 at *
 go_wp2_with fail
 refine HPP.out.mono ?_
 rintro e w2 ⟨hc, hf2⟩
 have HB2 := Lib.hid (HB.out.fr hf2 (fun h => h))
 have HF2 := Lib.hid (HF.out.trans' hf2)
 have HS2 := Lib.hid (HS.out.frF hf2)
 have hlt2 := HB2.out.lt
 have hw0 := HB.out.lt
 clear hf2
 unfold PFail POk at hc
 rcases hc with ⟨k, i, A, n, cc, d, hno, hd, rfl⟩ | ⟨t, k, i, A, n, cc, q, d, hPt, hdq, hq, hd1, hpa, rfl⟩
 · have hf3 : Fr (fun _ => False) w2 (w2.alloc (.cells #[.int .i64 k, .string i, .slice A n cc] 39)) := (Fr.refl _ _).alloc _
   have HB3 := Lib.hid (HB2.out.fr hf3 (fun h => h))
   have HF3 := Lib.hid ((HF2.out.trans' hf3).mono (T := fun j => w.heap.size ≤ j) (fun _ _ h => h.elim))
   have HT3 := Lib.hid (Blk.new w2 39 #[.int .i64 k, .string i, .slice A n cc])
   have HNN := Lib.hid (HN1.out hno)
   clear hf3 hno HN1 HN2
   go_wp2_with fail
   generalize w2.alloc (.cells #[.int .i64 k, .string i, .slice A n cc] 39) = w3 at *
   have c0 := HT3.out.cell 0
   have c1 := HT3.out.cell 1
   have c2 := HT3.out.cell 2
   simp only [List.getElem?_toArray, List.getElem?_cons_zero, List.getElem?_cons_succ] at c0 c1 c2
   have r0 : w3.cell? ⟨w.heap.size, 0, none⟩ = some (.int .i64 0) := HB3.out.cell 0
   have r1 : w3.cell? ⟨w.heap.size, 1, none⟩ = some (.string ⟨#[]⟩) := HB3.out.cell 1
   have r2 : w3.cell? ⟨w.heap.size, 2, none⟩ = some (.slice none 0 0) := HB3.out.cell 2
   have z0 := HB3.out.frozen 0
   have z1 := HB3.out.frozen 1
   have z2 := HB3.out.frozen 2
   have hl3 := HB3.out.lt
   have hst := Blk.setAll (vs := [.int .i64 k, .string i, .slice A n cc]) (old := zero39) HB3.out rfl
   have hT := HT3.out.fr hst.2 (fun e => by omega)
   have s0 : (((w3.setCell ⟨w.heap.size, 0, none⟩ (.int .i64 k)).setCell ⟨w.heap.size, 1, none⟩ (.string i)).setCell ⟨w.heap.size, 2, none⟩ (.slice A n cc)).drew.cell? ⟨w2.heap.size, 0, none⟩ = some (.int .i64 k) := hT.cell 0
   have s1 : (((w3.setCell ⟨w.heap.size, 0, none⟩ (.int .i64 k)).setCell ⟨w.heap.size, 1, none⟩ (.string i)).setCell ⟨w.heap.size, 2, none⟩ (.slice A n cc)).drew.cell? ⟨w2.heap.size, 1, none⟩ = some (.string i) := hT.cell 1
   have s2 : (((w3.setCell ⟨w.heap.size, 0, none⟩ (.int .i64 k)).setCell ⟨w.heap.size, 1, none⟩ (.string i)).setCell ⟨w.heap.size, 2, none⟩ (.slice A n cc)).drew.cell? ⟨w2.heap.size, 2, none⟩ = some (.slice A n cc) := hT.cell 2
   have HST := Lib.hid (show Blk (((w3.setCell ⟨w.heap.size, 0, none⟩ (.int .i64 k)).setCell ⟨w.heap.size, 1, none⟩ (.string i)).setCell ⟨w.heap.size, 2, none⟩ (.slice A n cc)).drew w.heap.size 39 ([.int .i64 k, .string i, .slice A n cc] : List Value).toArray from hst.1)
   have HFF := Lib.hid (show Fr (fun _ => False) w (((w3.setCell ⟨w.heap.size, 0, none⟩ (.int .i64 k)).setCell ⟨w.heap.size, 1, none⟩ (.string i)).setCell ⟨w.heap.size, 2, none⟩ (.slice A n cc)).drew from ((HF3.out.trans hst.2 (fun j hj e => by omega)).drew).shut (Nat.le_refl _))
   clear hst hT
   have c0d : w3.drew.cell? ⟨w2.heap.size, 0, none⟩ = some (.int .i64 k) := c0
   have c1d : w3.drew.cell? ⟨w2.heap.size, 1, none⟩ = some (.string i) := c1
   have c2d : w3.drew.cell? ⟨w2.heap.size, 2, none⟩ = some (.slice A n cc) := c2
   go_region_held3 (fun wy => wy.cell? ⟨w2.heap.size, 0, none⟩ = some (.int .i64 k) ∧ wy.cell? ⟨w2.heap.size, 1, none⟩ = some (.string i) ∧ wy.cell? ⟨w2.heap.size, 2, none⟩ = some (.slice A n cc)) (first | exact ⟨c0, c1, c2⟩ | exact ⟨c0d, c1d, c2d⟩ | exact ⟨s0, s1, s2⟩) (first | (go_at_call 27; refine (HMN.out _).mono ?_; rintro e w5 ⟨rfl, rfl⟩))
   all_goals
    go_wp2_with fail
    exact bodyPost_ret (v := .tuple #[pv k i A n cc, .int .i64 (-1), .int .i64 (d : Int)]) (results_e3 rfl _ _ w.heap.size 39 _ (0, 0) _ rfl HST.out Tryz.underlying39 rfl (by kernel_rfl) _ _ rfl rfl) rfl ⟨.inl ⟨_, _, _, _, _, d, HNN.out, by omega, rfl⟩, HFF.out⟩
 · have hf3 : Fr (fun _ => False) w2 (w2.alloc (.cells #[.int .i64 k, .string i, .slice A n cc] 39)) := (Fr.refl _ _).alloc _
   have HB3 := Lib.hid (HB2.out.fr hf3 (fun h => h))
   have HF3 := Lib.hid ((HF2.out.trans' hf3).mono (T := fun j => w.heap.size ≤ j) (fun _ _ h => h.elim))
   have HT3 := Lib.hid (Blk.new w2 39 #[.int .i64 k, .string i, .slice A n cc])
   have HS3 := Lib.hid (HS2.out.frF hf3)
   have HPA := Lib.hid (hpa.frF hf3)
   have HPT := Lib.hid hPt
   have hq0 : (0 : Int) ≤ (q : Int) := by omega
   clear hf3 hpa hPt HMN
   go_wp2_with fail
   generalize w2.alloc (.cells #[.int .i64 k, .string i, .slice A n cc] 39) = w3 at *
   have c0 := HT3.out.cell 0
   have c1 := HT3.out.cell 1
   have c2 := HT3.out.cell 2
   simp only [List.getElem?_toArray, List.getElem?_cons_zero, List.getElem?_cons_succ] at c0 c1 c2
   have hmq := HMQ.out q w3.drew hq (HS3.out.frF ((Fr.refl _ _).drew))
   clear HMQ
   obtain ⟨r, hr⟩ : ∃ r, r = (if markAt rs q ⟨#[41]⟩ = true then (markTo rs q ⟨#[41]⟩ : Int) else -1) := ⟨_, rfl⟩
   rw [← hr] at hmq
   have HMQ := Lib.hid hmq
   have HR := Lib.hid hr
   clear hmq hr
   have r0 : w3.cell? ⟨w.heap.size, 0, none⟩ = some (.int .i64 0) := HB3.out.cell 0
   have r1 : w3.cell? ⟨w.heap.size, 1, none⟩ = some (.string ⟨#[]⟩) := HB3.out.cell 1
   have r2 : w3.cell? ⟨w.heap.size, 2, none⟩ = some (.slice none 0 0) := HB3.out.cell 2
   have z0 := HB3.out.frozen 0
   have z1 := HB3.out.frozen 1
   have z2 := HB3.out.frozen 2
   have hl3 := HB3.out.lt
   have hst := Blk.setAll (vs := [.int .i64 k, .string i, .slice A n cc]) (old := zero39) HB3.out rfl
   have hT := HT3.out.fr hst.2 (fun e => by omega)
   have s0 : (((w3.setCell ⟨w.heap.size, 0, none⟩ (.int .i64 k)).setCell ⟨w.heap.size, 1, none⟩ (.string i)).setCell ⟨w.heap.size, 2, none⟩ (.slice A n cc)).drew.cell? ⟨w2.heap.size, 0, none⟩ = some (.int .i64 k) := hT.cell 0
   have s1 : (((w3.setCell ⟨w.heap.size, 0, none⟩ (.int .i64 k)).setCell ⟨w.heap.size, 1, none⟩ (.string i)).setCell ⟨w.heap.size, 2, none⟩ (.slice A n cc)).drew.cell? ⟨w2.heap.size, 1, none⟩ = some (.string i) := hT.cell 1
   have s2 : (((w3.setCell ⟨w.heap.size, 0, none⟩ (.int .i64 k)).setCell ⟨w.heap.size, 1, none⟩ (.string i)).setCell ⟨w.heap.size, 2, none⟩ (.slice A n cc)).drew.cell? ⟨w2.heap.size, 2, none⟩ = some (.slice A n cc) := hT.cell 2
   have HST := Lib.hid (show Blk (((w3.setCell ⟨w.heap.size, 0, none⟩ (.int .i64 k)).setCell ⟨w.heap.size, 1, none⟩ (.string i)).setCell ⟨w.heap.size, 2, none⟩ (.slice A n cc)).drew w.heap.size 39 ([.int .i64 k, .string i, .slice A n cc] : List Value).toArray from hst.1)
   have HFF := Lib.hid (show Fr (fun _ => False) w (((w3.setCell ⟨w.heap.size, 0, none⟩ (.int .i64 k)).setCell ⟨w.heap.size, 1, none⟩ (.string i)).setCell ⟨w.heap.size, 2, none⟩ (.slice A n cc)).drew from ((HF3.out.trans hst.2 (fun j hj e => by omega)).drew).shut (Nat.le_refl _))
   have HPA2 := Lib.hid (show PAt 39 (((w3.setCell ⟨w.heap.size, 0, none⟩ (.int .i64 k)).setCell ⟨w.heap.size, 1, none⟩ (.string i)).setCell ⟨w.heap.size, 2, none⟩ (.slice A n cc)).drew w.heap.size t [.int .i64 k, .string i, .slice A n cc] from (((HPA.out.frN hw0 hst.2)).base (Nat.le_of_lt hw0)).frF ((Fr.refl _ _).drew))
   clear hst hT
   have c0d : w3.drew.cell? ⟨w2.heap.size, 0, none⟩ = some (.int .i64 k) := c0
   have c1d : w3.drew.cell? ⟨w2.heap.size, 1, none⟩ = some (.string i) := c1
   have c2d : w3.drew.cell? ⟨w2.heap.size, 2, none⟩ = some (.slice A n cc) := c2
   go_region_held3 (fun wy => wy.cell? ⟨w2.heap.size, 0, none⟩ = some (.int .i64 k) ∧ wy.cell? ⟨w2.heap.size, 1, none⟩ = some (.string i) ∧ wy.cell? ⟨w2.heap.size, 2, none⟩ = some (.slice A n cc)) (first | exact ⟨c0, c1, c2⟩ | exact ⟨c0d, c1d, c2d⟩ | exact ⟨s0, s1, s2⟩) (first | (go_at_call 27; refine (HMQ.out).mono ?_; rintro e w5 ⟨rfl, rfl⟩))
   all_goals
    go_wp2_with fail
    refine bodyPost_ret (v := .tuple #[pv k i A n cc, .int .i64 r, .int .i64 (d : Int)]) (results_e3 rfl _ _ w.heap.size 39 _ (0, 0) _ rfl HST.out Tryz.underlying39 rfl (by kernel_rfl) _ _ rfl rfl) rfl ⟨?_, HFF.out⟩
    cases h41 : markAt rs q ⟨#[41]⟩ with
    | false =>
     have hr := HR.out
     rw [h41, if_neg Bool.false_ne_true] at hr
     subst hr
     exact .inl ⟨_, _, _, _, _, d, HN2.out t q d HPT.out h41, by omega, rfl⟩
    | true =>
     have hr := HR.out
     rw [h41, if_pos rfl] at hr
     subst hr
     have hm2 := mark_in h41 hq
     exact .inr ⟨t, _, _, _, _, _, markTo rs q ⟨#[41]⟩, d, HAT.out t q d HPT.out h41, by omega, hm2.2.2, hd1, HPA2.out, rfl⟩

end Go.Proofs.YtagchljgmjmlcaaGreatDoor
