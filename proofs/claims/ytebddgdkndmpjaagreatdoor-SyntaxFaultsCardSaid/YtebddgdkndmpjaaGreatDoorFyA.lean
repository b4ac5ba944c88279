/- The document: IRIs and blank nodes, read: walked. -/
import Derived.Test.YtebddgdkndmpjaaGreatDoorFw
import Derived.Deep.CutBlock
import Derived.Deep.RegionLawGrows
import Derived.Deep.Cut
import Derived.Deep.CutRange
import Derived.WalkKit
import Derived.WalkLawsBesides
import Derived.WalkSpells
import Derived.Deep.QuietTactic
import Derived.BigRegion
import Derived.BigQuiet
import Derived.Lib.Hide
import Derived.Outline
import Derived.Deep.AppendLies
import Derived.Deep.RegionLaw
import Derived.Deep.RegionWith
import Derived.Deep.RegionHeld3
import Derived.Deep.LoopGhost
import Derived.Deep.DeepFit
import Derived.Laws.ResultCell
import Derived.Laws.RangeAny
import Derived.Deep.MidRow
import Derived.StillTailTactics
import Derived.OpenShut
namespace Go.Proofs.YtebddgdkndmpjaaGreatDoor
set_option linter.unusedVariables false
open Go.RowKit Go

/-- What the document reads: the term and the place behind; none: the place of what can't stand there. -/
def docR (rs : List Int) (p : Nat) : Option DT × Nat :=
  if peekOf rs p = 60 then ((iriR rs p).1.map (fun l => ⟨1, strL l, ⟨#[]⟩, ⟨#[]⟩⟩), (iriR rs p).2)
  else if peekOf rs p = 95 then
    (if peekOf rs (p + 1) = 58 then (some ⟨0, strL (part rs (p + 2) (wordE rs [95, 45] (p + 2))), ⟨#[]⟩, ⟨#[]⟩⟩, wordE rs [95, 45] (p + 2)) else (none, p + 1))
  else if peekOf rs p = 34 then
    (match quotR rs p with
      | (none, q) => (none, q)
      | (some l, q) => (if (tailR rs q).2.2.2 = true then some ⟨2, strL l, (tailR rs q).1, (tailR rs q).2.1⟩ else none, (tailR rs q).2.2.1))
  else (none, p)
theorem doc_form (rs : List Int) (p : Nat) : (formR rs p).1 = (docR rs p).1.map toTm ∧ (formR rs p).2 = (docR rs p).2 := by
  unfold formR docR
  by_cases h60 : peekOf rs p = 60
  · rw [if_pos h60, if_pos h60]
    cases (iriR rs p).1 <;> exact ⟨rfl, rfl⟩
  · rw [if_neg h60, if_neg h60]
    by_cases h95 : peekOf rs p = 95
    · rw [if_pos h95, if_pos h95]
      by_cases h58 : peekOf rs (p + 1) = 58
      · rw [if_pos h58, if_pos h58]
        exact ⟨rfl, rfl⟩
      · rw [if_neg h58, if_neg h58]
        exact ⟨rfl, rfl⟩
    · rw [if_neg h95, if_neg h95]
      by_cases h34 : peekOf rs p = 34
      · rw [if_pos h34, if_pos h34]
        generalize quotR rs p = qr
        obtain ⟨qo, qp⟩ := qr
        cases qo with
        | none => exact ⟨rfl, rfl⟩
        | some l =>
          dsimp only
          refine ⟨?_, rfl⟩
          split <;> rfl
      · rw [if_neg h34, if_neg h34]
        exact ⟨rfl, rfl⟩
/-- The place and the error that the document tells. -/
def docE (rs : List Int) (p : Nat) : Nat × Int :=
  match docR rs p with
  | (none, q) => (q, 1)
  | (some x, q) => if rGood x = true then (q, 0) else (p, 3)
def ReadPost (r : Nat × Int) (w : World) (e : Ending) (w' : World) : Prop := (∃ k a b c, e = .returned (.tuple #[.agg #[.int .i64 k, .string a, .string b, .string c], .int .i64 (r.1 : Int), .int .i64 r.2])) ∧ Fr (fun _ => False) w w'

/-- Behind the store of a quoted text. -/
def R34 (w : World) (g c : Nat) (rs : List Int) (str : ByteArray) (wx : World) : Prop :=
  Blk wx (w.heap.size + 1) 52 #[.int .i64 2, .string str, .string xString, .string ⟨#[]⟩] ∧ Blk wx w.heap.size 52 #[.int .i64 0, .string ⟨#[]⟩, .string ⟨#[]⟩, .string ⟨#[]⟩] ∧ Fr (fun j => w.heap.size ≤ j) w wx ∧ Ls wx g c rs
theorem inf52 : (Tryz.prog.info? 52).map (·.size) = some 4 := by kernel_rfl
def zero52 : List Value := [.int .i64 0, .string ⟨#[]⟩, .string ⟨#[]⟩, .string ⟨#[]⟩]
theorem one52 (k : Int) (a b c : ByteArray) : (#[.int .i64 k, .string a, .string b, .string c] : Array Value).all (·.oneCell') = true := all_oneCell_toArray (cs := [.int .i64 k, .string a, .string b, .string c]) (by
  intro v hv
  simp only [List.mem_cons, List.not_mem_nil, or_false] at hv
  rcases hv with rfl | rfl | rfl | rfl <;> rfl)

set_option maxRecDepth 100000 in
set_option maxHeartbeats 40000000 in
theorem rread_60 (g c p : Nat) (rs : List Int) (w : World) (hl : rs.length ≤ 1000) (hv : ∀ r, r ∈ rs → signR r = true) (hp : p ≤ rs.length) (h : Ls w g c rs) (h60 : peekOf rs p = 60) :
    Calls Tryz.prog 12 #[.slice (some ⟨g, 0, none⟩) rs.length c, .int .i64 (p : Int)] w (ReadPost (docE rs p) w) := by
  have HST := Lib.hid (fun q ch w1 h0 h1 hq h2 => stands_any g c q ch rs w1 h0 h1 hq h2)
  have HS := Lib.hid h
  have HIR := Lib.hid (fun w1 h1 => riri2_any g c p rs w1 hl hv hp h1)
  have hf0 : Fr (fun _ => False) w ((w.alloc (.cells #[.int .i64 0, .string ⟨#[]⟩, .string ⟨#[]⟩, .string ⟨#[]⟩] 52)).alloc (.cells #[.int .i64 0, .string ⟨#[]⟩, .string ⟨#[]⟩, .string ⟨#[]⟩] 52)) := ((Fr.refl _ _).alloc _).alloc _
  have S1 := Lib.hid (fun ch h0 h1 => stands_any g c p ch rs _ h0 h1 (by omega) (h.frF hf0))
  have hb1 := (Blk.new w 52 #[.int .i64 0, .string ⟨#[]⟩, .string ⟨#[]⟩, .string ⟨#[]⟩]).alloc (.cells #[.int .i64 0, .string ⟨#[]⟩, .string ⟨#[]⟩, .string ⟨#[]⟩] 52)
  have hb2 := Blk.new (w.alloc (.cells #[.int .i64 0, .string ⟨#[]⟩, .string ⟨#[]⟩, .string ⟨#[]⟩] 52)) 52 #[.int .i64 0, .string ⟨#[]⟩, .string ⟨#[]⟩, .string ⟨#[]⟩]
  rw [show (w.alloc (.cells #[.int .i64 0, .string ⟨#[]⟩, .string ⟨#[]⟩, .string ⟨#[]⟩] 52)).heap.size = w.heap.size + 1 by simp] at hb2
  have HB1 := Lib.hid hb1
  have HB2 := Lib.hid hb2
  have HF0 := Lib.hid hf0
  have HGD := Lib.hid (fun (x : DT) w1 h1 h2 h3 h4 h5 => rgood_any x w1 h1 h2 h3 h4 h5)
  have HFI := Lib.hid (iriR_fits rs hv p hp)
  have HS0 := Lib.hid (h.frF hf0)
  clear h hf0 hb1 hb2
  obtain ⟨res, hres⟩ : ∃ x, x = docE rs p := ⟨_, rfl⟩
  rw [← hres]
  unfold docE docR at hres
  have HF0B := Lib.hid (HF0.out.mono (T := fun j => w.heap.size ≤ j) (fun _ _ h => h.elim))
  rw [if_pos h60] at hres
  have S60 := Lib.hid (S1.out 60 (by decide) (by decide))
  rw [h60] at S60
  have HRES := Lib.hid hres
  generalize iriR rs p = ir at *
  obtain ⟨io, ip⟩ := ir
  dsimp only at HIR
  obtain ⟨str, hstr⟩ : ∃ x, x = optS io := ⟨_, rfl⟩
  rw [← hstr] at HIR
  clear hres
  go_enter Tryz.func12, Tryz.ntmps12
  go_wp2_with fail
  refine S60.out.mono ?_
  rintro e w1 ⟨rfl, rfl⟩
  generalize ((w.alloc (.cells #[.int .i64 0, .string ⟨#[]⟩, .string ⟨#[]⟩, .string ⟨#[]⟩] 52)).alloc (.cells #[.int .i64 0, .string ⟨#[]⟩, .string ⟨#[]⟩, .string ⟨#[]⟩] 52)) = w0 at *
  have cTa : (w0).cell? ⟨w.heap.size + 1, 0, none⟩ = some (.int .i64 0) := HB2.out.cell 0
  have fTa := HB2.out.frozen 0
  have lTa := HB2.out.lt
  have hxa : Fr (fun j => j = w.heap.size + 1) (w0) ((w0).setCell ⟨w.heap.size + 1, 0, none⟩ (.int .i64 1)) := (Fr.refl (fun j => j = w.heap.size + 1) (w0)).setCell ⟨w.heap.size + 1, 0, none⟩ (fun _ => rfl) _
  have HTa := Lib.hid (HB2.out.set_ 0 (.int .i64 1))
  have HRa := Lib.hid (HB1.out.fr hxa (fun e => by omega))
  have HFa := Lib.hid (HF0B.out.trans hxa (fun j hj e => by omega))
  have HSa := Lib.hid (show Ls _ g c rs from ownsRow_fr HS0.out hxa (fun j hj e => own_blk_ne HS0.out HB2.out (by decide) (by rw [hj, e])))
  have HX := Lib.hid (HIR.out _ HSa.out)
  clear hxa
  go_wp2_with fail
  refine HX.out.mono ?_
  rintro e w2 ⟨rfl, hf2⟩
  have HT2 := Lib.hid (HTa.out.fr hf2 (fun h => h))
  have HR2 := Lib.hid (HRa.out.fr hf2 (fun h => h))
  have HF2 := Lib.hid (HFa.out.trans hf2 (fun _ _ h => h.elim))
  have HS2 := Lib.hid (HSa.out.frF hf2)
  clear hf2
  cases io with
  | none =>
    obtain rfl : str = ⟨#[]⟩ := hstr
    have cTb : (w2).cell? ⟨w.heap.size + 1, 1, none⟩ = some (.string ⟨#[]⟩) := HT2.out.cell 1
    have fTb := HT2.out.frozen 1
    have lTb := HT2.out.lt
    have hxb : Fr (fun j => j = w.heap.size + 1) (w2) ((w2).setCell ⟨w.heap.size + 1, 1, none⟩ (.string ⟨#[]⟩)) := (Fr.refl (fun j => j = w.heap.size + 1) (w2)).setCell ⟨w.heap.size + 1, 1, none⟩ (fun _ => rfl) _
    have HTb := Lib.hid (HT2.out.set_ 1 (.string ⟨#[]⟩))
    have HRb := Lib.hid (HR2.out.fr hxb (fun e => by omega))
    have HFb := Lib.hid (HF2.out.trans hxb (fun j hj e => by omega))
    have HSb := Lib.hid (show Ls _ g c rs from ownsRow_fr HS2.out hxb (fun j hj e => own_blk_ne HS2.out HT2.out (by decide) (by rw [hj, e])))
    have hr := HRES.out
    dsimp only [Option.map] at hr
    subst hr
    clear hxb
    have hst := Blk.setAll (vs := zero52) (old := zero52) HRb.out rfl
    have HTH := Lib.hid (Blk.there (cs := zero52) HRb.out (n := 4) rfl)
    have HST := Lib.hid hst.1
    have HFF := Lib.hid ((HFb.out.trans hst.2 (fun j hj e => by omega)).shut (Nat.le_refl _))
    have hl1 := HRb.out.lt
    unfold zero52 at HST HFF
    clear hst
    go_wp2_with (refine wpList_store_mid rfl 52 _ _ rfl _ _ _ rfl rfl HTH.out inf52 (one52 _ _ _ _) ?_)
    exact bodyPost_ret (v := .tuple #[.agg #[.int .i64 0, .string ⟨#[]⟩, .string ⟨#[]⟩, .string ⟨#[]⟩], .int .i64 (ip : Int), .int .i64 1]) (results_e3 rfl _ _ w.heap.size 52 _ (0, 0) _ rfl HST.out Tryz.underlying52 rfl (by kernel_rfl) _ _ rfl rfl) rfl ⟨⟨_, _, _, _, rfl⟩, HFF.out⟩
  | some l =>
    have cTb : (w2).cell? ⟨w.heap.size + 1, 1, none⟩ = some (.string ⟨#[]⟩) := HT2.out.cell 1
    have fTb := HT2.out.frozen 1
    have lTb := HT2.out.lt
    have hxb : Fr (fun j => j = w.heap.size + 1) (w2) ((w2).setCell ⟨w.heap.size + 1, 1, none⟩ (.string str)) := (Fr.refl (fun j => j = w.heap.size + 1) (w2)).setCell ⟨w.heap.size + 1, 1, none⟩ (fun _ => rfl) _
    have HTb := Lib.hid (HT2.out.set_ 1 (.string str))
    have HRb := Lib.hid (HR2.out.fr hxb (fun e => by omega))
    have HFb := Lib.hid (HF2.out.trans hxb (fun j hj e => by omega))
    have HSb := Lib.hid (show Ls _ g c rs from ownsRow_fr HS2.out hxb (fun j hj e => own_blk_ne HS2.out HT2.out (by decide) (by rw [hj, e])))
    have hr := HRES.out
    dsimp only [Option.map] at hr
    have hll := (HFI.out.1 l rfl).1
    have hss := strL_size l
    have h00 : ([] : List Int).length = 0 := rfl
    have hse : str = strL l := hstr
    rw [← hse] at hr hss
    clear hxb hstr hse
    have HTZ := Lib.hid (show Blk ((w2).setCell ⟨w.heap.size + 1, 1, none⟩ (.string str)) (w.heap.size + 1) 52 ([.int .i64 1, .string str, .string ⟨#[]⟩, .string ⟨#[]⟩] : List Value).toArray from HTb.out)
    have HRG := Lib.hid (blkRange (cs := [.int .i64 1, .string str, .string ⟨#[]⟩, .string ⟨#[]⟩]) HTZ.out)
    have HGX := Lib.hid (HGD.out ⟨1, str, ⟨#[]⟩, ⟨#[]⟩⟩ ((w2).setCell ⟨w.heap.size + 1, 1, none⟩ (.string str)) (by show (0 : Int) ≤ 1; decide) (by show (1 : Int) ≤ 2; decide) (by show str.size ≤ 4096; omega) size0 size0)
    generalize rGood ⟨1, str, ⟨#[]⟩, ⟨#[]⟩⟩ = gb at *
    have HRS := Lib.hid hr
    clear hr
    go_wp2_with (refine wpList_load_mid rfl 52 _ rfl (w.heap.size + 1) 0 rfl _ _ HRG.out Tryz.underlying52 rfl inf52 ?_)
    refine HGX.out.mono ?_
    rintro e w9 ⟨rfl, hf9⟩
    have HT9 := Lib.hid (HTZ.out.fr hf9 (fun h => h))
    have HR9 := Lib.hid (HRb.out.fr hf9 (fun h => h))
    have HF9 := Lib.hid (HFb.out.trans hf9 (fun _ _ h => h.elim))
    clear hf9
    have hl1 := HR9.out.lt
    have HTH := Lib.hid (Blk.there (cs := zero52) HR9.out (n := 4) rfl)
    cases gb with
    | false =>
      have hr := HRS.out
      rw [if_neg Bool.false_ne_true] at hr
      subst hr
      have hst := Blk.setAll (vs := zero52) (old := zero52) HR9.out rfl
      have HST := Lib.hid hst.1
      have HFF := Lib.hid ((HF9.out.trans hst.2 (fun j hj e => by omega)).shut (Nat.le_refl _))
      unfold zero52 at HST HFF
      clear hst
      go_wp2_with (refine wpList_store_mid rfl 52 _ _ rfl _ _ _ rfl rfl HTH.out inf52 (one52 _ _ _ _) ?_)
      exact bodyPost_ret (v := .tuple #[.agg #[.int .i64 0, .string ⟨#[]⟩, .string ⟨#[]⟩, .string ⟨#[]⟩], .int .i64 (p : Int), .int .i64 3]) (results_e3 rfl _ _ w.heap.size 52 _ (0, 0) _ rfl HST.out Tryz.underlying52 rfl (by kernel_rfl) _ _ rfl rfl) rfl ⟨⟨_, _, _, _, rfl⟩, HFF.out⟩
    | true =>
      have hr := HRS.out
      rw [if_pos rfl] at hr
      subst hr
      have HRG9 := Lib.hid (blkRange (cs := [.int .i64 1, .string str, .string ⟨#[]⟩, .string ⟨#[]⟩]) HT9.out)
      have hst := Blk.setAll (vs := [.int .i64 1, .string str, .string ⟨#[]⟩, .string ⟨#[]⟩]) (old := zero52) HR9.out rfl
      have HST := Lib.hid hst.1
      have HFF := Lib.hid ((HF9.out.trans hst.2 (fun j hj e => by omega)).shut (Nat.le_refl _))
      clear hst
      go_wp2_with (first | refine wpList_load_mid rfl 52 _ rfl (w.heap.size + 1) 0 rfl _ _ HRG9.out Tryz.underlying52 rfl inf52 ?_ | refine wpList_store_mid rfl 52 _ _ rfl _ _ _ rfl rfl HTH.out inf52 (one52 _ _ _ _) ?_)
      exact bodyPost_ret (v := .tuple #[.agg #[.int .i64 1, .string str, .string ⟨#[]⟩, .string ⟨#[]⟩], .int .i64 (ip : Int), .int .i64 0]) (results_e3 rfl _ _ w.heap.size 52 _ (0, 0) _ rfl HST.out Tryz.underlying52 rfl (by kernel_rfl) _ _ rfl rfl) rfl ⟨⟨_, _, _, _, rfl⟩, HFF.out⟩

set_option maxRecDepth 100000 in
set_option maxHeartbeats 40000000 in
theorem rread_95 (g c p : Nat) (rs : List Int) (w : World) (hl : rs.length ≤ 1000) (hv : ∀ r, r ∈ rs → signR r = true) (hp : p ≤ rs.length) (h : Ls w g c rs) (h60 : ¬ peekOf rs p = 60) (h95 : peekOf rs p = 95) :
    Calls Tryz.prog 12 #[.slice (some ⟨g, 0, none⟩) rs.length c, .int .i64 (p : Int)] w (ReadPost (docE rs p) w) := by
  have HST := Lib.hid (fun q ch w1 h0 h1 hq h2 => stands_any g c q ch rs w1 h0 h1 hq h2)
  have HS := Lib.hid h
  have HIR := Lib.hid (fun w1 h1 => riri2_any g c p rs w1 hl hv hp h1)
  have hf0 : Fr (fun _ => False) w ((w.alloc (.cells #[.int .i64 0, .string ⟨#[]⟩, .string ⟨#[]⟩, .string ⟨#[]⟩] 52)).alloc (.cells #[.int .i64 0, .string ⟨#[]⟩, .string ⟨#[]⟩, .string ⟨#[]⟩] 52)) := ((Fr.refl _ _).alloc _).alloc _
  have S1 := Lib.hid (fun ch h0 h1 => stands_any g c p ch rs _ h0 h1 (by omega) (h.frF hf0))
  have hb1 := (Blk.new w 52 #[.int .i64 0, .string ⟨#[]⟩, .string ⟨#[]⟩, .string ⟨#[]⟩]).alloc (.cells #[.int .i64 0, .string ⟨#[]⟩, .string ⟨#[]⟩, .string ⟨#[]⟩] 52)
  have hb2 := Blk.new (w.alloc (.cells #[.int .i64 0, .string ⟨#[]⟩, .string ⟨#[]⟩, .string ⟨#[]⟩] 52)) 52 #[.int .i64 0, .string ⟨#[]⟩, .string ⟨#[]⟩, .string ⟨#[]⟩]
  rw [show (w.alloc (.cells #[.int .i64 0, .string ⟨#[]⟩, .string ⟨#[]⟩, .string ⟨#[]⟩] 52)).heap.size = w.heap.size + 1 by simp] at hb2
  have HB1 := Lib.hid hb1
  have HB2 := Lib.hid hb2
  have HF0 := Lib.hid hf0
  have HGD := Lib.hid (fun (x : DT) w1 h1 h2 h3 h4 h5 => rgood_any x w1 h1 h2 h3 h4 h5)
  have HFI := Lib.hid (iriR_fits rs hv p hp)
  have HS0 := Lib.hid (h.frF hf0)
  clear h hf0 hb1 hb2
  obtain ⟨res, hres⟩ : ∃ x, x = docE rs p := ⟨_, rfl⟩
  rw [← hres]
  unfold docE docR at hres
  have HF0B := Lib.hid (HF0.out.mono (T := fun j => w.heap.size ≤ j) (fun _ _ h => h.elim))
  rw [if_neg h60] at hres
  have S60 := Lib.hid (S1.out 60 (by decide) (by decide))
  rw [decide_eq_false h60] at S60
  have S95 := Lib.hid (S1.out 95 (by decide) (by decide))
  have S34 := Lib.hid (S1.out 34 (by decide) (by decide))
  rw [if_pos h95] at hres
  rw [h95] at S95
  have hplt := peek_lt (rs := rs) (p := p) (by omega)
  have HSW0 := Lib.hid (fun w1 h1 => HST.out (p + 1) 58 w1 (by decide) (by decide) (by omega) h1)
  by_cases h58 : peekOf rs (p + 1) = 58
  · rw [if_pos h58] at hres
    rw [h58] at HSW0
    have hpl2 := peek_lt (rs := rs) (p := p + 1) (by omega)
    have HWD := Lib.hid (fun w1 h1 => rword_any g c (p + 2) true rs w1 hl hv hpl2 h1)
    rw [if_pos rfl] at HWD
    have hss := strL_size (part rs (p + 2) (wordE rs [95, 45] (p + 2)))
    have hpz := part_len rs (p + 2) (wordE rs [95, 45] (p + 2))
    generalize wordE rs [95, 45] (p + 2) = q at *
    generalize strL (part rs (p + 2) q) = str at *
    have HRES := Lib.hid hres
    clear hres
    go_enter Tryz.func12, Tryz.ntmps12
    go_wp2_with fail
    refine S60.out.mono ?_
    rintro e w1 ⟨rfl, rfl⟩
    generalize ((w.alloc (.cells #[.int .i64 0, .string ⟨#[]⟩, .string ⟨#[]⟩, .string ⟨#[]⟩] 52)).alloc (.cells #[.int .i64 0, .string ⟨#[]⟩, .string ⟨#[]⟩, .string ⟨#[]⟩] 52)) = w0 at *
    go_wp2_with fail
    refine S95.out.mono ?_
    rintro e w1 ⟨rfl, rfl⟩
    have HX := Lib.hid (HSW0.out w0 HS0.out)
    go_wp2_with fail
    refine HX.out.mono ?_
    rintro e w1 ⟨rfl, rfl⟩
    have HX2 := Lib.hid (HWD.out w0 HS0.out)
    go_wp2_with fail
    refine HX2.out.mono ?_
    rintro e w2 ⟨rfl, hf2⟩
    have HT2 := Lib.hid (HB2.out.fr hf2 (fun h => h))
    have HR2 := Lib.hid (HB1.out.fr hf2 (fun h => h))
    have HF2 := Lib.hid (HF0B.out.trans hf2 (fun _ _ h => h.elim))
    have HS2 := Lib.hid (HS0.out.frF hf2)
    clear hf2
    have cTb : (w2).cell? ⟨w.heap.size + 1, 1, none⟩ = some (.string ⟨#[]⟩) := HT2.out.cell 1
    have fTb := HT2.out.frozen 1
    have lTb := HT2.out.lt
    have hxb : Fr (fun j => j = w.heap.size + 1) (w2) ((w2).setCell ⟨w.heap.size + 1, 1, none⟩ (.string str)) := (Fr.refl (fun j => j = w.heap.size + 1) (w2)).setCell ⟨w.heap.size + 1, 1, none⟩ (fun _ => rfl) _
    have HTb := Lib.hid (HT2.out.set_ 1 (.string str))
    have HRb := Lib.hid (HR2.out.fr hxb (fun e => by omega))
    have HFb := Lib.hid (HF2.out.trans hxb (fun j hj e => by omega))
    have HSb := Lib.hid (show Ls _ g c rs from ownsRow_fr HS2.out hxb (fun j hj e => own_blk_ne HS2.out HT2.out (by decide) (by rw [hj, e])))
    clear hxb
    have hr := HRES.out
    have HTZ := Lib.hid (show Blk ((w2).setCell ⟨w.heap.size + 1, 1, none⟩ (.string str)) (w.heap.size + 1) 52 ([.int .i64 0, .string str, .string ⟨#[]⟩, .string ⟨#[]⟩] : List Value).toArray from HTb.out)
    have HRG := Lib.hid (blkRange (cs := [.int .i64 0, .string str, .string ⟨#[]⟩, .string ⟨#[]⟩]) HTZ.out)
    have HGX := Lib.hid (HGD.out ⟨0, str, ⟨#[]⟩, ⟨#[]⟩⟩ ((w2).setCell ⟨w.heap.size + 1, 1, none⟩ (.string str)) (by show (0 : Int) ≤ 0; decide) (by show (0 : Int) ≤ 2; decide) (by show str.size ≤ 4096; omega) size0 size0)
    generalize rGood ⟨0, str, ⟨#[]⟩, ⟨#[]⟩⟩ = gb at *
    have HRS := Lib.hid hr
    clear hr
    go_wp2_with (refine wpList_load_mid rfl 52 _ rfl (w.heap.size + 1) 0 rfl _ _ HRG.out Tryz.underlying52 rfl inf52 ?_)
    refine HGX.out.mono ?_
    rintro e w9 ⟨rfl, hf9⟩
    have HT9 := Lib.hid (HTZ.out.fr hf9 (fun h => h))
    have HR9 := Lib.hid (HRb.out.fr hf9 (fun h => h))
    have HF9 := Lib.hid (HFb.out.trans hf9 (fun _ _ h => h.elim))
    clear hf9
    have hl1 := HR9.out.lt
    have HTH := Lib.hid (Blk.there (cs := zero52) HR9.out (n := 4) rfl)
    cases gb with
    | false =>
      have hr := HRS.out
      rw [if_neg Bool.false_ne_true] at hr
      subst hr
      have hst := Blk.setAll (vs := zero52) (old := zero52) HR9.out rfl
      have HST := Lib.hid hst.1
      have HFF := Lib.hid ((HF9.out.trans hst.2 (fun j hj e => by omega)).shut (Nat.le_refl _))
      unfold zero52 at HST HFF
      clear hst
      go_wp2_with (refine wpList_store_mid rfl 52 _ _ rfl _ _ _ rfl rfl HTH.out inf52 (one52 _ _ _ _) ?_)
      exact bodyPost_ret (v := .tuple #[.agg #[.int .i64 0, .string ⟨#[]⟩, .string ⟨#[]⟩, .string ⟨#[]⟩], .int .i64 (p : Int), .int .i64 3]) (results_e3 rfl _ _ w.heap.size 52 _ (0, 0) _ rfl HST.out Tryz.underlying52 rfl (by kernel_rfl) _ _ rfl rfl) rfl ⟨⟨_, _, _, _, rfl⟩, HFF.out⟩
    | true =>
      have hr := HRS.out
      rw [if_pos rfl] at hr
      subst hr
      have HRG9 := Lib.hid (blkRange (cs := [.int .i64 0, .string str, .string ⟨#[]⟩, .string ⟨#[]⟩]) HT9.out)
      have hst := Blk.setAll (vs := [.int .i64 0, .string str, .string ⟨#[]⟩, .string ⟨#[]⟩]) (old := zero52) HR9.out rfl
      have HST := Lib.hid hst.1
      have HFF := Lib.hid ((HF9.out.trans hst.2 (fun j hj e => by omega)).shut (Nat.le_refl _))
      clear hst
      go_wp2_with (first | refine wpList_load_mid rfl 52 _ rfl (w.heap.size + 1) 0 rfl _ _ HRG9.out Tryz.underlying52 rfl inf52 ?_ | refine wpList_store_mid rfl 52 _ _ rfl _ _ _ rfl rfl HTH.out inf52 (one52 _ _ _ _) ?_)
      exact bodyPost_ret (v := .tuple #[.agg #[.int .i64 0, .string str, .string ⟨#[]⟩, .string ⟨#[]⟩], .int .i64 (q : Int), .int .i64 0]) (results_e3 rfl _ _ w.heap.size 52 _ (0, 0) _ rfl HST.out Tryz.underlying52 rfl (by kernel_rfl) _ _ rfl rfl) rfl ⟨⟨_, _, _, _, rfl⟩, HFF.out⟩
  · rw [if_neg h58] at hres
    rw [decide_eq_false h58] at HSW0
    have hr := hres
    dsimp only at hr
    clear hres
    subst hr
    go_enter Tryz.func12, Tryz.ntmps12
    go_wp2_with fail
    refine S60.out.mono ?_
    rintro e w1 ⟨rfl, rfl⟩
    generalize ((w.alloc (.cells #[.int .i64 0, .string ⟨#[]⟩, .string ⟨#[]⟩, .string ⟨#[]⟩] 52)).alloc (.cells #[.int .i64 0, .string ⟨#[]⟩, .string ⟨#[]⟩, .string ⟨#[]⟩] 52)) = w0 at *
    go_wp2_with fail
    refine S95.out.mono ?_
    rintro e w1 ⟨rfl, rfl⟩
    have HX := Lib.hid (HSW0.out w0 HS0.out)
    go_wp2_with fail
    refine HX.out.mono ?_
    rintro e w1 ⟨rfl, rfl⟩
    have hst := Blk.setAll (vs := zero52) (old := zero52) HB1.out rfl
    have HTH := Lib.hid (Blk.there (cs := zero52) HB1.out (n := 4) rfl)
    have HST := Lib.hid hst.1
    have HFF := Lib.hid ((HF0B.out.trans hst.2 (fun j hj e => by omega)).shut (Nat.le_refl _))
    have hl1 := HB1.out.lt
    unfold zero52 at HST HFF
    clear hst
    go_wp2_with (refine wpList_store_mid rfl 52 _ _ rfl _ _ _ rfl rfl HTH.out inf52 (one52 _ _ _ _) ?_)
    exact bodyPost_ret (v := .tuple #[.agg #[.int .i64 0, .string ⟨#[]⟩, .string ⟨#[]⟩, .string ⟨#[]⟩], .int .i64 ((p : Int) + 1), .int .i64 1]) (results_e3 rfl _ _ w.heap.size 52 _ (0, 0) _ rfl HST.out Tryz.underlying52 rfl (by kernel_rfl) _ _ rfl rfl) rfl ⟨⟨_, _, _, _, rfl⟩, HFF.out⟩

set_option maxRecDepth 100000 in
set_option maxHeartbeats 40000000 in
theorem rread_no (g c p : Nat) (rs : List Int) (w : World) (hl : rs.length ≤ 1000) (hv : ∀ r, r ∈ rs → signR r = true) (hp : p ≤ rs.length) (h : Ls w g c rs) (h60 : ¬ peekOf rs p = 60) (h95 : ¬ peekOf rs p = 95) (h34 : ¬ peekOf rs p = 34) :
    Calls Tryz.prog 12 #[.slice (some ⟨g, 0, none⟩) rs.length c, .int .i64 (p : Int)] w (ReadPost (docE rs p) w) := by
  have HST := Lib.hid (fun q ch w1 h0 h1 hq h2 => stands_any g c q ch rs w1 h0 h1 hq h2)
  have HS := Lib.hid h
  have HIR := Lib.hid (fun w1 h1 => riri2_any g c p rs w1 hl hv hp h1)
  have hf0 : Fr (fun _ => False) w ((w.alloc (.cells #[.int .i64 0, .string ⟨#[]⟩, .string ⟨#[]⟩, .string ⟨#[]⟩] 52)).alloc (.cells #[.int .i64 0, .string ⟨#[]⟩, .string ⟨#[]⟩, .string ⟨#[]⟩] 52)) := ((Fr.refl _ _).alloc _).alloc _
  have S1 := Lib.hid (fun ch h0 h1 => stands_any g c p ch rs _ h0 h1 (by omega) (h.frF hf0))
  have hb1 := (Blk.new w 52 #[.int .i64 0, .string ⟨#[]⟩, .string ⟨#[]⟩, .string ⟨#[]⟩]).alloc (.cells #[.int .i64 0, .string ⟨#[]⟩, .string ⟨#[]⟩, .string ⟨#[]⟩] 52)
  have hb2 := Blk.new (w.alloc (.cells #[.int .i64 0, .string ⟨#[]⟩, .string ⟨#[]⟩, .string ⟨#[]⟩] 52)) 52 #[.int .i64 0, .string ⟨#[]⟩, .string ⟨#[]⟩, .string ⟨#[]⟩]
  rw [show (w.alloc (.cells #[.int .i64 0, .string ⟨#[]⟩, .string ⟨#[]⟩, .string ⟨#[]⟩] 52)).heap.size = w.heap.size + 1 by simp] at hb2
  have HB1 := Lib.hid hb1
  have HB2 := Lib.hid hb2
  have HF0 := Lib.hid hf0
  have HGD := Lib.hid (fun (x : DT) w1 h1 h2 h3 h4 h5 => rgood_any x w1 h1 h2 h3 h4 h5)
  have HFI := Lib.hid (iriR_fits rs hv p hp)
  have HS0 := Lib.hid (h.frF hf0)
  clear h hf0 hb1 hb2
  obtain ⟨res, hres⟩ : ∃ x, x = docE rs p := ⟨_, rfl⟩
  rw [← hres]
  unfold docE docR at hres
  have HF0B := Lib.hid (HF0.out.mono (T := fun j => w.heap.size ≤ j) (fun _ _ h => h.elim))
  rw [if_neg h60] at hres
  have S60 := Lib.hid (S1.out 60 (by decide) (by decide))
  rw [decide_eq_false h60] at S60
  have S95 := Lib.hid (S1.out 95 (by decide) (by decide))
  have S34 := Lib.hid (S1.out 34 (by decide) (by decide))
  rw [if_neg h95] at hres
  rw [decide_eq_false h95] at S95
  rw [if_neg h34] at hres
  rw [decide_eq_false h34] at S34
  have hr := hres
  dsimp only at hr
  clear hres
  subst hr
  go_enter Tryz.func12, Tryz.ntmps12
  go_wp2_with fail
  refine S60.out.mono ?_
  rintro e w1 ⟨rfl, rfl⟩
  generalize ((w.alloc (.cells #[.int .i64 0, .string ⟨#[]⟩, .string ⟨#[]⟩, .string ⟨#[]⟩] 52)).alloc (.cells #[.int .i64 0, .string ⟨#[]⟩, .string ⟨#[]⟩, .string ⟨#[]⟩] 52)) = w0 at *
  go_wp2_with fail
  refine S95.out.mono ?_
  rintro e w1 ⟨rfl, rfl⟩
  go_wp2_with fail
  refine S34.out.mono ?_
  rintro e w1 ⟨rfl, rfl⟩
  have hst := Blk.setAll (vs := zero52) (old := zero52) HB1.out rfl
  have HTH := Lib.hid (Blk.there (cs := zero52) HB1.out (n := 4) rfl)
  have HST := Lib.hid hst.1
  have HFF := Lib.hid ((HF0B.out.trans hst.2 (fun j hj e => by omega)).shut (Nat.le_refl _))
  have hl1 := HB1.out.lt
  unfold zero52 at HST HFF
  clear hst
  go_wp2_with (refine wpList_store_mid rfl 52 _ _ rfl _ _ _ rfl rfl HTH.out inf52 (one52 _ _ _ _) ?_)
  exact bodyPost_ret (v := .tuple #[.agg #[.int .i64 0, .string ⟨#[]⟩, .string ⟨#[]⟩, .string ⟨#[]⟩], .int .i64 (p : Int), .int .i64 1]) (results_e3 rfl _ _ w.heap.size 52 _ (0, 0) _ rfl HST.out Tryz.underlying52 rfl (by kernel_rfl) _ _ rfl rfl) rfl ⟨⟨_, _, _, _, rfl⟩, HFF.out⟩

end Go.Proofs.YtebddgdkndmpjaaGreatDoor
