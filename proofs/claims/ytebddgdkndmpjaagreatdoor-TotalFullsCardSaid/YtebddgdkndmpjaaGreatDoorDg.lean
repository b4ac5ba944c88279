/- The rows of a query that counts all: walked. -/
import Derived.Test.YtebddgdkndmpjaaGreatDoorDf
import Derived.Test.YtebddgdkndmpjaaGreatDoorDe
import Derived.Deep.CutBlock
import Derived.Deep.RegionLawGrows
import Derived.Deep.Cut
import Derived.Deep.CutRange
import Derived.WalkKit
import Derived.WalkLawsBesides
import Derived.WalkSpells
import Derived.Deep.QuietTactic
import Derived.BigRegion
import Derived.BigQuiet
import Derived.Lib.Hide
import Derived.Outline
import Derived.Deep.AppendLies
import Derived.Deep.RegionLaw
import Derived.Deep.RegionWith
import Derived.Deep.RegionHeld3
import Derived.Deep.LoopGhost
import Derived.Deep.DeepFit
import Derived.Laws.ResultCell
import Derived.Laws.RangeAny
import Derived.Deep.MidRow
import Derived.StillTailTactics
import Derived.OpenShut
namespace Go.Proofs.YtebddgdkndmpjaaGreatDoor
set_option linter.unusedVariables false
open Go.RowKit Go

def TotOk (w : World) (Bd b r : Nat) (vt : Value) (ss : List ByteArray) (rows : List (List Int)) (l : List Tm) (room : Int) (e : Ending) (w' : World) : Prop :=
  ∃ vt' tv, e = .returned (.tuple #[tv, .int .i64 0]) ∧ IsTable w' w.heap.size 1 tv ss rows ∧ IsDict w' Bd b r vt' l room ∧ Fr (fun j => j = b ∨ j = r ∨ vt.ownBlock = some j) w w' ∧ ∀ k, vt'.ownBlock = some k → vt.ownBlock = some k ∨ w.heap.size ≤ k
def TotBad (w : World) (Bd b r : Nat) (vt : Value) (xe : Int) (l : List Tm) (room : Int) (e : Ending) (w' : World) : Prop :=
  ∃ vt', e = .returned (.tuple #[.agg #[.slice none 0 0, .slice none 0 0], .int .i64 xe]) ∧ IsDict w' Bd b r vt' l room ∧ Fr (fun j => j = b ∨ j = r ∨ vt.ownBlock = some j) w w' ∧ ∀ k, vt'.ownBlock = some k → vt.ownBlock = some k ∨ w.heap.size ≤ k
theorem resultsC2' {P : Program} {fn : Func} {p c : Tmp} {ty : TypeId} (h : fn.results = #[.cell p ty, .tmp c]) (tmps : Array Value) (w : World) :
    (results fn tmps).run P w = ((asAddr (tmps.getD p undef)).run P w).andThen fun q w₁ => ((loadVar ty q).run P w₁).andThen fun v w₂ => .ok (.tuple #[v, tmps.getD c undef]) w₂ := by
  simp only [results, h]
  simp [Sem.run_bind, Result.andThen]
theorem resultsC2 {P : Program} {fn : Func} {p c : Tmp} {ty : TypeId} (h : fn.results = #[.cell p ty, .tmp c]) (tmps : Array Value) (w : World) (g : Nat) (t : TypeId) (cs : Array Value) (fr : Nat × Nat) (ds : TypeDesc)
    (hp : tmps.getD p undef = .pointer (some ⟨g, 0, none⟩)) (hg : w.heap[g]? = some (.cells cs t fr))
    (hu : P.underlying ty = some ds) (hd : (match ds with | .struct _ | .array _ _ => true | _ => false) = true) (hi : (P.info? ty).map (·.size) = some cs.size) (vc : Value) (hc : tmps.getD c undef = vc) :
    (results fn tmps).run P w = .ok (.tuple #[.agg cs, vc]) w := by
  rw [resultsC2' h, hp, hc]
  simp [asAddr, run_loadVar_row w g t ty cs fr ds hg hu hd hi]

set_option maxRecDepth 100000 in
set_option maxHeartbeats 40000000 in
/-- The rows of a query that counts all. -/
theorem total_ok (kind t v f : ByteArray) (g sc n3 c3 : Nat) (A3 V R : Option Addr) (m vc rc Bt Br Bd b r p : Nat) (fnd : Bool) (vals : List Value) (rows : List (List Int)) (ns : List ByteArray) (vt : Value) (ts : List Tm) (room : Int) (w : World)
    (hf : f.toList.isEmpty = false) (hn : rows.length < 100) (hlen : ts.length ≤ 1000) (hBd : Bd ≤ w.heap.size) (hE : putE ts (smallTm rows.length) room = 0) (hx : -1 ≤ putN ts (smallTm rows.length) room)
    (hm : m ≤ 9) (hns : ns.length = m) (hpv : IsVar ns v p fnd) (hpl : fnd = true → p < m) (hrl : ∀ i, i < rows.length → (rows.getD i []).length = m) (hlo : ∀ i, i < rows.length → ∀ k, k < m → -1 ≤ (rows.getD i []).getD k 0)
    (hb : Blk w g 176 #[.string v, .string f, .string ⟨#[42]⟩]) (hv : w.ownsRow Bt 9 1 (.slice V m vc) m (ns.map .string)) (hr : RowsAt w Br (.slice R rows.length rc) vals rows) (hd : IsDict w Bd b r vt ts room) :
    Calls Tryz.prog 17 #[.agg #[.string kind, .string t, .bool false, .slice (some ⟨g, 0, none⟩) 1 sc, .slice none 0 0, .slice A3 n3 c3, .slice none 0 0], .agg #[.slice V m vc, .slice R rows.length rc], .pointer (some ⟨b, 0, none⟩)] w (TotOk w Bd b r vt [v] [[putN ts (smallTm rows.length) room]] (putL ts (smallTm rows.length) room) room) := by
  obtain ⟨i48, hi48, hz480, hz481, hz482⟩ := info_parts info48
  have hf0 : Fr (fun _ => False) w (((w.alloc (.cells #[.string kind, .string t, .bool false, .slice (some ⟨g, 0, none⟩) 1 sc, .slice none 0 0, .slice A3 n3 c3, .slice none 0 0] 30)).alloc (.cells #[.slice V m vc, .slice R rows.length rc] 63)).alloc (.cells #[.slice none 0 0, .slice none 0 0] 63)) := (((Fr.refl _ _).alloc _).alloc _).alloc _
  have z1 : (w.alloc (.cells #[.string kind, .string t, .bool false, .slice (some ⟨g, 0, none⟩) 1 sc, .slice none 0 0, .slice A3 n3 c3, .slice none 0 0] 30)).heap.size = w.heap.size + 1 := by simp
  have z2 : ((w.alloc (.cells #[.string kind, .string t, .bool false, .slice (some ⟨g, 0, none⟩) 1 sc, .slice none 0 0, .slice A3 n3 c3, .slice none 0 0] 30)).alloc (.cells #[.slice V m vc, .slice R rows.length rc] 63)).heap.size = w.heap.size + 2 := by simp
  have z3 : (((w.alloc (.cells #[.string kind, .string t, .bool false, .slice (some ⟨g, 0, none⟩) 1 sc, .slice none 0 0, .slice A3 n3 c3, .slice none 0 0] 30)).alloc (.cells #[.slice V m vc, .slice R rows.length rc] 63)).alloc (.cells #[.slice none 0 0, .slice none 0 0] 63)).heap.size = w.heap.size + 3 := by simp
  have hq := ((Blk.new w 30 #[.string kind, .string t, .bool false, .slice (some ⟨g, 0, none⟩) 1 sc, .slice none 0 0, .slice A3 n3 c3, .slice none 0 0]).alloc (.cells #[.slice V m vc, .slice R rows.length rc] 63)).alloc (.cells #[.slice none 0 0, .slice none 0 0] 63)
  have ht := (Blk.new (w.alloc (.cells #[.string kind, .string t, .bool false, .slice (some ⟨g, 0, none⟩) 1 sc, .slice none 0 0, .slice A3 n3 c3, .slice none 0 0] 30)) 63 #[.slice V m vc, .slice R rows.length rc]).alloc (.cells #[.slice none 0 0, .slice none 0 0] 63)
  have hy := Blk.new ((w.alloc (.cells #[.string kind, .string t, .bool false, .slice (some ⟨g, 0, none⟩) 1 sc, .slice none 0 0, .slice A3 n3 c3, .slice none 0 0] 30)).alloc (.cells #[.slice V m vc, .slice R rows.length rc] 63)) 63 #[.slice none 0 0, .slice none 0 0]
  rw [z1] at ht
  rw [z2] at hy
  obtain ⟨w1, hw1⟩ : ∃ w1, w1 = ((w.alloc (.cells #[.string kind, .string t, .bool false, .slice (some ⟨g, 0, none⟩) 1 sc, .slice none 0 0, .slice A3 n3 c3, .slice none 0 0] 30)).alloc (.cells #[.slice V m vc, .slice R rows.length rc] 63)).alloc (.cells #[.slice none 0 0, .slice none 0 0] 63) := ⟨_, rfl⟩
  rw [← hw1] at hq ht hy hf0 z3
  have HQ1 := Lib.hid hq
  have HT1 := Lib.hid ht
  have HY1 := Lib.hid hy
  have HF1 := Lib.hid hf0
  have HS1 := Lib.hid (hb.fr hf0 (fun h => h))
  have HV1 := Lib.hid (ownsRow_fr hv hf0 (fun _ _ h => h))
  have HR1 := Lib.hid (hr.frF hf0)
  have HD1 := Lib.hid (hd.frF hf0)
  have HZ1 := Lib.hid z3
  have HCO := Lib.hid (fun w1 hb => columns_any kind t false g 1 sc 0 0 n3 c3 0 0 none A3 none [(v, f, ⟨#[42]⟩)] w1 (by decide) rfl hb)
  have HGR := Lib.hid (fun w1 hb => grouped_any kind t false g 1 sc 0 0 n3 c3 0 0 none A3 none [(v, f, ⟨#[42]⟩)] w1 (by decide) rfl hb)
  rw [show (decide (0 < 0) || foldB [(v, f, ⟨#[42]⟩)]) = true by show ((!f.toList.isEmpty) || false) = true; rw [hf]; rfl] at HGR
  have HPJ := Lib.hid (fun (N : Option Addr) (nc : Nat) w1 hvars hv har => project_any (fun _ => (p, fnd)) 1 m vc Br Bt 1 nc V N ns [v] (.slice R rows.length rc) vals rows w1 (by decide) (by omega) rfl hns (fun k hk => by obtain rfl : k = 0 := (by omega); exact hpv) (fun k _ h => hpl h) hrl hlo (by omega) hvars hv har)
  have HGP := Lib.hid (fun w1 => groups_none V R none m vc rows.length rc 0 w1)
  have HRO := Lib.hid (fun w1 hB hb hd => row59_ok kind t v f false g sc 0 0 n3 c3 0 0 none A3 none V R m vc rows.length rc Bd b r vt ts room w1 hf hn hlen hB hE hb hd)
  have HOF := Lib.hid (fun (N : Option Addr) (nc B : Nat) vr0 vals0 x w1 (hx : -1 ≤ x) hs hr => of_any 1 nc B N vr0 vals0 [v] [[x]] w1 (by decide) (fun h => absurd h (by decide)) rfl (fun j hj => absurd hj (by omega)) (fun j hj => absurd hj (by omega)) (fun k hk j hj => absurd hj (by omega)) (fun i hi => by obtain rfl : i = 0 := (by simpa using hi); rfl) (fun i hi k hk => by obtain rfl : i = 0 := (by simpa using hi); obtain rfl : k = 0 := (by omega); exact hx) (by simp) hs hr)
  have HBD := Lib.hid hBd
  have hdbl := hd.blk.lt
  have hdr := hd.map.lt
  have DN0 := Lib.hid (show ∀ j, w.heap.size ≤ j → ¬ (j = b ∨ j = r ∨ vt.ownBlock = some j) from fun j hj h => by
    rcases h with h | h | h
    · omega
    · omega
    · have := (hd.row.lt j h).2; omega)
  have BNE := Lib.hid (show ∀ j, w.heap.size ≤ j → ¬ b = j from fun j hj e => by omega)
  have RNE := Lib.hid (show ∀ j, w.heap.size ≤ j → ¬ j = r from fun j hj e => by omega)
  obtain ⟨x, hxx⟩ : ∃ x, x = putN ts (smallTm rows.length) room := ⟨_, rfl⟩
  rw [← hxx] at HRO hx ⊢
  have HX := Lib.hid hx
  have hgl := hb.lt
  have hbD := hd.blk.lt
  clear hf0 z1 z2 z3 hq ht hy hb hv hr hd hpv hpl hrl hlo hE hf hn hlen hBd hns hxx hx
  go_enter Tryz.func17, Tryz.ntmps17
  go_wp2_with fail
  rw [← hw1]
  clear hw1
  refine (HCO.out _ (show Blk w1 g 176 (selCells [(v, f, ⟨#[42]⟩)]).toArray from HS1.out)).mono ?_
  rintro e w2 ⟨C, cc, rfl, hc2, hf2⟩
  have HQ2 := Lib.hid (HQ1.out.fr hf2 (fun h => h))
  have HT2 := Lib.hid (HT1.out.fr hf2 (fun h => h))
  have HY2 := Lib.hid (HY1.out.fr hf2 (fun h => h))
  have HS2 := Lib.hid (HS1.out.fr hf2 (fun h => h))
  have HV2 := Lib.hid (ownsRow_fr HV1.out hf2 (fun _ _ h => h))
  have HR2 := Lib.hid (HR1.out.frF hf2)
  have HD2 := Lib.hid (HD1.out.frF hf2)
  have HF2 := Lib.hid (HF1.out.trans' hf2)
  have hcb := ownsRow_base hc2 (show w.heap.size ≤ w1.heap.size by have := HZ1.out; omega)
  have HC2 := Lib.hid (show w2.ownsRow w.heap.size 9 1 (.slice C 1 cc) 1 [.string v] from hcb)
  have t0 : w2.cell? ⟨w.heap.size + 1, 0, none⟩ = some (.slice V m vc) := HT2.out.cell 0
  have t1 : w2.cell? ⟨w.heap.size + 1, 1, none⟩ = some (.slice R rows.length rc) := HT2.out.cell 1
  have HVA := Lib.hid (fun w3 (h3 : Fr (fun _ => False) w2 w3) => varsN_any 1 cc w.heap.size C [v] w3 (by decide) (fun h => absurd h (by decide)) (ownsRow_fr hcb h3 (fun _ _ h => h)) (fun j hj => absurd hj (by omega)) (fun j hj => absurd hj (by omega)))
  have HPP := Lib.hid (HPJ.out C cc w2 (fun w3 h3 => (HVA.out w3 h3).mono (fun _ _ h => h)) HV2.out HR2.out)
  clear hc2 hf2 hcb
  go_wp2_with fail
  refine HPP.out.mono ?_
  rintro e w3 ⟨tv, rfl, ⟨PV, pc, pr, pvals, rfl, hp1, hp2⟩, hf3⟩
  obtain ⟨PA, pcc, hpr⟩ := row_shape hp2.own
  subst hpr
  have HQ3 := Lib.hid (HQ2.out.fr hf3 (fun h => h))
  have HT3 := Lib.hid (HT2.out.fr hf3 (fun h => h))
  have HY3 := Lib.hid (HY2.out.fr hf3 (fun h => h))
  have HS3 := Lib.hid (HS2.out.fr hf3 (fun h => h))
  have HV3 := Lib.hid (ownsRow_fr HV2.out hf3 (fun _ _ h => h))
  have HR3 := Lib.hid (HR2.out.frF hf3)
  have HD3 := Lib.hid (HD2.out.frF hf3)
  have HC3 := Lib.hid (ownsRow_fr HC2.out hf3 (fun _ _ h => h))
  have HF3 := Lib.hid (HF2.out.trans' hf3)
  generalize (rows.map (projRow (fun _ => (p, fnd)) 1)).length = pn at *
  have hfa : Fr (fun _ => False) w3 (w3.alloc (.cells #[.slice PV 1 pc, .slice PA pn pcc] 63)) := (Fr.refl _ _).alloc _
  obtain ⟨w4, hw4⟩ : ∃ w4, w4 = w3.alloc (.cells #[.slice PV 1 pc, .slice PA pn pcc] 63) := ⟨_, rfl⟩
  obtain ⟨pb, hpb⟩ : ∃ pb, pb = w3.heap.size := ⟨_, rfl⟩
  have hp := Blk.new w3 63 #[.slice PV 1 pc, .slice PA pn pcc]
  rw [← hw4] at hfa hp
  rw [← hpb] at hp
  have HP4 := Lib.hid hp
  have hpw : w.heap.size + 2 < pb := by have := HY3.out.lt; omega
  have HQ4 := Lib.hid (HQ3.out.fr hfa (fun h => h))
  have HT4 := Lib.hid (HT3.out.fr hfa (fun h => h))
  have HY4 := Lib.hid (HY3.out.fr hfa (fun h => h))
  have HS4 := Lib.hid (HS3.out.fr hfa (fun h => h))
  have HV4 := Lib.hid (ownsRow_fr HV3.out hfa (fun _ _ h => h))
  have HR4 := Lib.hid (HR3.out.frF hfa)
  have HD4 := Lib.hid (HD3.out.frF hfa)
  have HC4 := Lib.hid (ownsRow_fr HC3.out hfa (fun _ _ h => h))
  have HF4 := Lib.hid (HF3.out.trans' hfa)
  have q0 : w3.cell? ⟨w.heap.size, 0, none⟩ = some (.string kind) := HQ3.out.cell 0
  have q1 : w3.cell? ⟨w.heap.size, 1, none⟩ = some (.string t) := HQ3.out.cell 1
  have q2 : w3.cell? ⟨w.heap.size, 2, none⟩ = some (.bool false) := HQ3.out.cell 2
  have q3 : w3.cell? ⟨w.heap.size, 3, none⟩ = some (.slice (some ⟨g, 0, none⟩) 1 sc) := HQ3.out.cell 3
  have q4 : w3.cell? ⟨w.heap.size, 4, none⟩ = some (.slice none 0 0) := HQ3.out.cell 4
  have q5 : w3.cell? ⟨w.heap.size, 5, none⟩ = some (.slice A3 n3 c3) := HQ3.out.cell 5
  have q6 : w3.cell? ⟨w.heap.size, 6, none⟩ = some (.slice none 0 0) := HQ3.out.cell 6
  have hql := HQ3.out.lt
  clear hp1 hp2 hf3 hfa hp t0 t1
  go_wp2_with fail
  rw [← hw4, ← hpb]
  clear hw4 hpb q0 q1 q2 q3 q4 q5 q6 hql
  refine (HGR.out _ (show Blk w4 g 176 (selCells [(v, f, ⟨#[42]⟩)]).toArray from HS4.out)).mono ?_
  rintro e w5 ⟨rfl, hf5⟩
  have HQ5 := Lib.hid (HQ4.out.fr hf5 (fun h => h))
  have HT5 := Lib.hid (HT4.out.fr hf5 (fun h => h))
  have HY5 := Lib.hid (HY4.out.fr hf5 (fun h => h))
  have HS5 := Lib.hid (HS4.out.fr hf5 (fun h => h))
  have HV5 := Lib.hid (ownsRow_fr HV4.out hf5 (fun _ _ h => h))
  have HR5 := Lib.hid (HR4.out.frF hf5)
  have HD5 := Lib.hid (HD4.out.frF hf5)
  have HC5 := Lib.hid (ownsRow_fr HC4.out hf5 (fun _ _ h => h))
  have HF5 := Lib.hid (HF4.out.trans' hf5)
  have HP5 := Lib.hid (HP4.out.fr hf5 (fun h => h))
  have t0 : w5.cell? ⟨w.heap.size + 1, 0, none⟩ = some (.slice V m vc) := HT5.out.cell 0
  have t1 : w5.cell? ⟨w.heap.size + 1, 1, none⟩ = some (.slice R rows.length rc) := HT5.out.cell 1
  have q6 : w5.cell? ⟨w.heap.size, 6, none⟩ = some (.slice none 0 0) := HQ5.out.cell 6
  clear hf5
  go_wp2_with fail
  refine (HGP.out _).mono ?_
  rintro e w6 ⟨gb, rfl, hg6, hgb, hf6⟩
  have HG6 := Lib.hid hg6
  have HQ6 := Lib.hid (HQ5.out.fr hf6 (fun h => h))
  have HT6 := Lib.hid (HT5.out.fr hf6 (fun h => h))
  have HY6 := Lib.hid (HY5.out.fr hf6 (fun h => h))
  have HS6 := Lib.hid (HS5.out.fr hf6 (fun h => h))
  have HV6 := Lib.hid (ownsRow_fr HV5.out hf6 (fun _ _ h => h))
  have HR6 := Lib.hid (HR5.out.frF hf6)
  have HD6 := Lib.hid (HD5.out.frF hf6)
  have HC6 := Lib.hid (ownsRow_fr HC5.out hf6 (fun _ _ h => h))
  have HF6 := Lib.hid (HF5.out.trans' hf6)
  have HP6 := Lib.hid (HP5.out.fr hf6 (fun h => h))
  have HGB := Lib.hid (show pb < gb from Nat.lt_of_lt_of_le HP5.out.lt hgb)
  clear hg6 hf6 hgb t0 t1 q6
  go_wp2_with fail
  go_loopw [10, 27] (fun ov iv wr => (ov = .slice none 0 0 ∧ iv = .int .i64 0 ∧ w6 = wr) ∨ (∃ A c vals' vt', ov = .slice A 1 c ∧ iv = .int .i64 1 ∧ RowsAt wr w.heap.size (.slice A 1 c) vals' [[x]] ∧ IsDict wr Bd b r vt' (putL ts (smallTm rows.length) room) room ∧ Fr (fun j => j = b ∨ j = r ∨ vt.ownBlock = some j) w6 wr ∧ ∀ k, vt'.ownBlock = some k → vt.ownBlock = some k ∨ w.heap.size ≤ k)) (fun _ iv _ => 1 - (intOf iv).toNat)
  case atStart => exact .inl ⟨rfl, rfl, rfl⟩
  case round =>
    rcases hrel with ⟨rfl, rfl, rfl⟩ | ⟨A, c, vals', vt', rfl, rfl, hro, hdi, hfr, hown⟩
    · have g0 : w6.cell? ⟨gb, 0, none⟩ = some (.slice V m vc) := HG6.out.cell 0
      have g1 : w6.cell? ⟨gb, 1, none⟩ = some (.slice R rows.length rc) := HG6.out.cell 1
      have hgbl := HG6.out.lt
      have q0 : w6.cell? ⟨w.heap.size, 0, none⟩ = some (.string kind) := HQ6.out.cell 0
      have q1 : w6.cell? ⟨w.heap.size, 1, none⟩ = some (.string t) := HQ6.out.cell 1
      have q2 : w6.cell? ⟨w.heap.size, 2, none⟩ = some (.bool false) := HQ6.out.cell 2
      have q3 : w6.cell? ⟨w.heap.size, 3, none⟩ = some (.slice (some ⟨g, 0, none⟩) 1 sc) := HQ6.out.cell 3
      have q4 : w6.cell? ⟨w.heap.size, 4, none⟩ = some (.slice none 0 0) := HQ6.out.cell 4
      have q5 : w6.cell? ⟨w.heap.size, 5, none⟩ = some (.slice A3 n3 c3) := HQ6.out.cell 5
      have q6 : w6.cell? ⟨w.heap.size, 6, none⟩ = some (.slice none 0 0) := HQ6.out.cell 6
      have hql := HQ6.out.lt
      have hfa : Fr (fun _ => False) w6 (w6.alloc (.cells #[.slice V m vc, .slice R rows.length rc] 63)) := (Fr.refl _ _).alloc _
      have HQ7 := Lib.hid (HQ6.out.fr hfa (fun h => h))
      have HT7 := Lib.hid (HT6.out.fr hfa (fun h => h))
      have HY7 := Lib.hid (HY6.out.fr hfa (fun h => h))
      have HS7 := Lib.hid (HS6.out.fr hfa (fun h => h))
      have HV7 := Lib.hid (ownsRow_fr HV6.out hfa (fun _ _ h => h))
      have HR7 := Lib.hid (HR6.out.frF hfa)
      have HD7 := Lib.hid (HD6.out.frF hfa)
      have HC7 := Lib.hid (ownsRow_fr HC6.out hfa (fun _ _ h => h))
      have HF7 := Lib.hid (HF6.out.trans' hfa)
      have HP7 := Lib.hid (HP6.out.fr hfa (fun h => h))
      have HR7' := Lib.hid (HRO.out _ (Nat.le_trans HBD.out HF7.out.size) HS7.out HD7.out)
      have hsz7 := HF7.out.size
      clear hfa
      go_wp2_with fail
      refine HR7'.out.mono ?_
      rintro e w8 ⟨vt', A, c, rfl, hrow, hd8, hf8, hown8⟩
      have HROW := Lib.hid (show IntRow w8 w.heap.size (.slice A 1 c) [x] from ownsRow_base hrow hsz7)
      have HD8 := Lib.hid hd8
      have HFR := Lib.hid (show Fr (fun j => j = b ∨ j = r ∨ vt.ownBlock = some j) w6 w8 from (((Fr.refl (fun _ => False) w6).alloc _).mono (fun _ _ h => h.elim)).trans' hf8)
      have HOW := Lib.hid (fun k (h : vt'.ownBlock = some k) => (hown8 k h).imp id (fun h2 => Nat.le_trans hsz7 h2))
      have hsz8 := hf8.size
      have hszq : w.heap.size ≤ w8.heap.size := by omega
      clear hrow hd8 hf8 hown8 g0 g1 q0 q1 q2 q3 q4 q5 q6 hql
      go_wp2_with (at_builtin; refine wpList_append_own _ rfl _ _ 61 rfl w.heap.size 48 i48 _ 1 24 Tryz.underlying61 hi48 hz480 hz481 hz482 rfl (by decide) (.slice none 0 0) 0 [] (by rfl) (World.ownsRow_nil _ _ _ _) ⟨w8.heap.size, 0, none⟩ 1 1 [.slice A 1 c] (by rfl) rfl (World.news_of_block (heap_alloc_new w8 _)) (by intro u hu; rw [List.mem_singleton] at hu; rw [hu]; rfl) (by unfold maxLen; omega) (by omega) (by simp; omega) ?_; intro v9 w9 hown9 hgr9 _; obtain ⟨A9, c9, hv9⟩ := row_shape hown9; subst hv9; have HOWN9 := Lib.hid hown9; have HGR9 := Lib.hid hgr9; clear hown9 hgr9)
      have HF9 := Lib.hid (show Fr (fun _ => False) w8 w9 from ((Fr.refl _ w8).alloc _).trans (Fr.of_grown HGR9.out) (fun j _ e => by cases e))
      have HRS := Lib.hid (show RowsAt w9 w.heap.size (.slice A9 1 c9) [.slice A 1 c] [[x]] from ⟨HOWN9.out, fun i hi => by
        obtain rfl : i = 0 := by simpa using hi
        exact HROW.out.fr HF9.out (fun _ _ h => h)⟩)
      have HD9 := Lib.hid (HD8.out.frF HF9.out)
      have HFF := Lib.hid (HFR.out.trans HF9.out (fun _ _ h => h.elim))
      clear HGR9 HOWN9
      go_roundw
      case rel => exact .inr ⟨A9, c9, _, vt', rfl, rfl, HRS.out, HD9.out, HFF.out, HOW.out⟩
      case measure => simp [intOf]
    · have hfw := hfr
      have hnd : ∀ j, w.heap.size ≤ j → j < w6.heap.size → ¬ (j = b ∨ j = r ∨ vt.ownBlock = some j) := fun j h _ => DN0.out j h
      have hpbl := HP6.out.lt
      have hyl := HY6.out.lt
      have hql := HQ6.out.lt
      have hP8 := HP6.out.fr hfr (hnd pb (by omega) hpbl)
      have hY8 := HY6.out.fr hfr (hnd _ (by omega) hyl)
      have hQ8 := HQ6.out.fr hfr (hnd _ (by omega) hql)
      have HC8 := Lib.hid (ownsRow_fr HC6.out hfr (fun j hj => hnd j (HC6.out.lt j hj).1 (HC6.out.lt j hj).2))
      have HO := Lib.hid (HOF.out C cc w.heap.size (.slice A 1 c) vals' x wr HX.out HC8.out hro)
      have HP8 := Lib.hid hP8
      have HY8 := Lib.hid hY8
      have HQ8 := Lib.hid hQ8
      have HD8 := Lib.hid hdi
      have HOW := Lib.hid hown
      have HF8 := Lib.hid ((HF6.out.mono (T := fun j => j = b ∨ j = r ∨ vt.ownBlock = some j) (fun _ _ h => h.elim)).trans' hfr)
      clear hfw hnd hP8 hY8 hQ8 hro hdi hfr hown hpbl hyl hql
      go_wp2_with fail
      refine HO.out.mono ?_
      rintro e w9 ⟨tv, rfl, ⟨OV, oc, orr, ovals, rfl, ho1, ho2⟩, hf9⟩
      obtain ⟨OA, occ, hor⟩ := row_shape ho2.own
      subst hor
      have hp9 := HP8.out.fr hf9 (fun h => h)
      have hy9 := HY8.out.fr hf9 (fun h => h)
      have hq9 := HQ8.out.fr hf9 (fun h => h)
      have HD9 := Lib.hid (HD8.out.frF hf9)
      have HF9 := Lib.hid (HF8.out.trans hf9 (fun _ _ h => h.elim))
      have HO1 := Lib.hid (ownsRow_base ho1 (show w.heap.size ≤ wr.heap.size from HF8.out.size))
      have HO2 := Lib.hid (ho2.base (show w.heap.size ≤ wr.heap.size from HF8.out.size))
      have hst := Blk.setAll (vs := [.slice OV 1 oc, .slice OA 1 occ]) (old := [.slice PV 1 pc, .slice PA pn pcc]) hp9 rfl
      have HTH := Lib.hid (Blk.there (cs := [.slice PV 1 pc, .slice PA pn pcc]) hp9 (n := 2) rfl)
      have hp10 := hst.1
      have hy10 := hy9.fr hst.2 (fun e => by omega)
      have hq10 := hq9.fr hst.2 (fun e => by omega)
      have hD10 := HD9.out.fr hst.2 (fun e => BNE.out pb (by omega) e) (fun e => RNE.out pb (by omega) e.symm) (fun k hk e => by
        subst e
        exact own_blk_ne HD9.out.row hp9 (by decide) hk)
      have hO1b := ownsRow_fr HO1.out hst.2 (fun j hj e => own_blk_ne HO1.out hp9 (by decide) (by rw [← e]; exact hj))
      have hO2b := HO2.out.frB hp9 (by decide) (by decide) hst.2
      have hst2 := Blk.setAll (vs := [.slice OV 1 oc, .slice OA 1 occ]) (old := [.slice none 0 0, .slice none 0 0]) hy10 rfl
      have HTH2 := Lib.hid (Blk.there (cs := [.slice none 0 0, .slice none 0 0]) hy10 (n := 2) rfl)
      have HST2 := Lib.hid hst2.1
      have HONE := Lib.hid (show (#[.slice OV 1 oc, .slice OA 1 occ] : Array Value).all (·.oneCell') = true from all_oneCell_toArray (by intro v hv; simp only [List.mem_cons, List.not_mem_nil, or_false] at hv; rcases hv with rfl | rfl <;> rfl))
      have HRG := Lib.hid (blkRange (cs := [.slice OV 1 oc, .slice OA 1 occ]) hp10)
      have HDF := Lib.hid (hD10.fr hst2.2 (fun e => BNE.out (w.heap.size + 2) (by omega) e) (fun e => RNE.out (w.heap.size + 2) (by omega) e.symm) (fun k hk e => by
        subst e
        exact own_blk_ne hD10.row hy10 (by decide) hk))
      have HO1F := Lib.hid (ownsRow_fr hO1b hst2.2 (fun j hj e => own_blk_ne hO1b hy10 (by decide) (by rw [← e]; exact hj)))
      have HO2F := Lib.hid (hO2b.frB hy10 (by decide) (by decide) hst2.2)
      have HFF := Lib.hid ((HF9.out.trans (T := fun j => j = pb) hst.2 (fun j hj e => absurd hj (by omega))).trans (T := fun j => j = w.heap.size + 2) hst2.2 (fun j hj e => absurd hj (by omega)))
      have dq : (w9.setCells pb 0 [.slice OV 1 oc, .slice OA 1 occ]).cell? ⟨w.heap.size, 2, none⟩ = some (.bool false) := hq10.cell 2
      have hpl9 := hp9.lt
      have hyl9 := hy9.lt
      clear hp9 hy9 hq9 hf9 hst hp10 hy10 hq10 hD10 hO1b hO2b hst2 ho1 ho2
      go_wp2_with (first | refine wpList_load_mid rfl 63 _ rfl pb 0 rfl _ _ HRG.out Tryz.underlying63 rfl inf63 ?_ | refine wpList_store_mid rfl 63 _ _ rfl _ _ _ rfl rfl HTH.out inf63 HONE.out ?_ | refine wpList_store_mid rfl 63 _ _ rfl _ _ _ rfl rfl HTH2.out inf63 HONE.out ?_)
      exact bodyPost_ret (v := .tuple #[.agg #[.slice OV 1 oc, .slice OA 1 occ], .int .i64 0]) (resultsC2 rfl _ _ (w.heap.size + 2) 63 _ (0, 0) _ rfl HST2.out Tryz.underlying63 rfl (by kernel_rfl) _ rfl) rfl ⟨vt', _, rfl, ⟨OV, oc, _, _, rfl, HO1F.out, HO2F.out⟩, HDF.out, HFF.out, HOW.out⟩
set_option maxRecDepth 100000 in
set_option maxHeartbeats 40000000 in
/-- The rows of a query that counts all. -/
theorem total_bad (xe : Int) (hxe : ¬ xe = 0) (kind t v f : ByteArray) (g sc n3 c3 : Nat) (A3 V R : Option Addr) (m vc rc Bt Br Bd b r p : Nat) (fnd : Bool) (vals : List Value) (rows : List (List Int)) (ns : List ByteArray) (vt : Value) (ts : List Tm) (room : Int) (w : World)
    (hf : f.toList.isEmpty = false) (hn : rows.length < 100) (hlen : ts.length ≤ 1000) (hBd : Bd ≤ w.heap.size) (hE : putE ts (smallTm rows.length) room = xe)
    (hm : m ≤ 9) (hns : ns.length = m) (hpv : IsVar ns v p fnd) (hpl : fnd = true → p < m) (hrl : ∀ i, i < rows.length → (rows.getD i []).length = m) (hlo : ∀ i, i < rows.length → ∀ k, k < m → -1 ≤ (rows.getD i []).getD k 0)
    (hb : Blk w g 176 #[.string v, .string f, .string ⟨#[42]⟩]) (hv : w.ownsRow Bt 9 1 (.slice V m vc) m (ns.map .string)) (hr : RowsAt w Br (.slice R rows.length rc) vals rows) (hd : IsDict w Bd b r vt ts room) :
    Calls Tryz.prog 17 #[.agg #[.string kind, .string t, .bool false, .slice (some ⟨g, 0, none⟩) 1 sc, .slice none 0 0, .slice A3 n3 c3, .slice none 0 0], .agg #[.slice V m vc, .slice R rows.length rc], .pointer (some ⟨b, 0, none⟩)] w (TotBad w Bd b r vt xe (putL ts (smallTm rows.length) room) room) := by
  obtain ⟨i48, hi48, hz480, hz481, hz482⟩ := info_parts info48
  have hf0 : Fr (fun _ => False) w (((w.alloc (.cells #[.string kind, .string t, .bool false, .slice (some ⟨g, 0, none⟩) 1 sc, .slice none 0 0, .slice A3 n3 c3, .slice none 0 0] 30)).alloc (.cells #[.slice V m vc, .slice R rows.length rc] 63)).alloc (.cells #[.slice none 0 0, .slice none 0 0] 63)) := (((Fr.refl _ _).alloc _).alloc _).alloc _
  have z1 : (w.alloc (.cells #[.string kind, .string t, .bool false, .slice (some ⟨g, 0, none⟩) 1 sc, .slice none 0 0, .slice A3 n3 c3, .slice none 0 0] 30)).heap.size = w.heap.size + 1 := by simp
  have z2 : ((w.alloc (.cells #[.string kind, .string t, .bool false, .slice (some ⟨g, 0, none⟩) 1 sc, .slice none 0 0, .slice A3 n3 c3, .slice none 0 0] 30)).alloc (.cells #[.slice V m vc, .slice R rows.length rc] 63)).heap.size = w.heap.size + 2 := by simp
  have z3 : (((w.alloc (.cells #[.string kind, .string t, .bool false, .slice (some ⟨g, 0, none⟩) 1 sc, .slice none 0 0, .slice A3 n3 c3, .slice none 0 0] 30)).alloc (.cells #[.slice V m vc, .slice R rows.length rc] 63)).alloc (.cells #[.slice none 0 0, .slice none 0 0] 63)).heap.size = w.heap.size + 3 := by simp
  have hq := ((Blk.new w 30 #[.string kind, .string t, .bool false, .slice (some ⟨g, 0, none⟩) 1 sc, .slice none 0 0, .slice A3 n3 c3, .slice none 0 0]).alloc (.cells #[.slice V m vc, .slice R rows.length rc] 63)).alloc (.cells #[.slice none 0 0, .slice none 0 0] 63)
  have ht := (Blk.new (w.alloc (.cells #[.string kind, .string t, .bool false, .slice (some ⟨g, 0, none⟩) 1 sc, .slice none 0 0, .slice A3 n3 c3, .slice none 0 0] 30)) 63 #[.slice V m vc, .slice R rows.length rc]).alloc (.cells #[.slice none 0 0, .slice none 0 0] 63)
  have hy := Blk.new ((w.alloc (.cells #[.string kind, .string t, .bool false, .slice (some ⟨g, 0, none⟩) 1 sc, .slice none 0 0, .slice A3 n3 c3, .slice none 0 0] 30)).alloc (.cells #[.slice V m vc, .slice R rows.length rc] 63)) 63 #[.slice none 0 0, .slice none 0 0]
  rw [z1] at ht
  rw [z2] at hy
  obtain ⟨w1, hw1⟩ : ∃ w1, w1 = ((w.alloc (.cells #[.string kind, .string t, .bool false, .slice (some ⟨g, 0, none⟩) 1 sc, .slice none 0 0, .slice A3 n3 c3, .slice none 0 0] 30)).alloc (.cells #[.slice V m vc, .slice R rows.length rc] 63)).alloc (.cells #[.slice none 0 0, .slice none 0 0] 63) := ⟨_, rfl⟩
  rw [← hw1] at hq ht hy hf0 z3
  have HQ1 := Lib.hid hq
  have HT1 := Lib.hid ht
  have HY1 := Lib.hid hy
  have HF1 := Lib.hid hf0
  have HS1 := Lib.hid (hb.fr hf0 (fun h => h))
  have HV1 := Lib.hid (ownsRow_fr hv hf0 (fun _ _ h => h))
  have HR1 := Lib.hid (hr.frF hf0)
  have HD1 := Lib.hid (hd.frF hf0)
  have HZ1 := Lib.hid z3
  have HCO := Lib.hid (fun w1 hb => columns_any kind t false g 1 sc 0 0 n3 c3 0 0 none A3 none [(v, f, ⟨#[42]⟩)] w1 (by decide) rfl hb)
  have HGR := Lib.hid (fun w1 hb => grouped_any kind t false g 1 sc 0 0 n3 c3 0 0 none A3 none [(v, f, ⟨#[42]⟩)] w1 (by decide) rfl hb)
  rw [show (decide (0 < 0) || foldB [(v, f, ⟨#[42]⟩)]) = true by show ((!f.toList.isEmpty) || false) = true; rw [hf]; rfl] at HGR
  have HPJ := Lib.hid (fun (N : Option Addr) (nc : Nat) w1 hvars hv har => project_any (fun _ => (p, fnd)) 1 m vc Br Bt 1 nc V N ns [v] (.slice R rows.length rc) vals rows w1 (by decide) (by omega) rfl hns (fun k hk => by obtain rfl : k = 0 := (by omega); exact hpv) (fun k _ h => hpl h) hrl hlo (by omega) hvars hv har)
  have HGP := Lib.hid (fun w1 => groups_none V R none m vc rows.length rc 0 w1)
  have HRO := Lib.hid (fun w1 hB hb hd => row59_bad xe hxe kind t v f false g sc 0 0 n3 c3 0 0 none A3 none V R m vc rows.length rc Bd b r vt ts room w1 hf hn hlen hB hE hb hd)
  have HOF := Lib.hid (fun (N : Option Addr) (nc B : Nat) vr0 vals0 x w1 (hx : -1 ≤ x) hs hr => of_any 1 nc B N vr0 vals0 [v] [[x]] w1 (by decide) (fun h => absurd h (by decide)) rfl (fun j hj => absurd hj (by omega)) (fun j hj => absurd hj (by omega)) (fun k hk j hj => absurd hj (by omega)) (fun i hi => by obtain rfl : i = 0 := (by simpa using hi); rfl) (fun i hi k hk => by obtain rfl : i = 0 := (by simpa using hi); obtain rfl : k = 0 := (by omega); exact hx) (by simp) hs hr)
  have HBD := Lib.hid hBd
  have hdbl := hd.blk.lt
  have hdr := hd.map.lt
  have DN0 := Lib.hid (show ∀ j, w.heap.size ≤ j → ¬ (j = b ∨ j = r ∨ vt.ownBlock = some j) from fun j hj h => by
    rcases h with h | h | h
    · omega
    · omega
    · have := (hd.row.lt j h).2; omega)
  have BNE := Lib.hid (show ∀ j, w.heap.size ≤ j → ¬ b = j from fun j hj e => by omega)
  have RNE := Lib.hid (show ∀ j, w.heap.size ≤ j → ¬ j = r from fun j hj e => by omega)
  obtain ⟨x, hxx⟩ : ∃ x, x = putN ts (smallTm rows.length) room := ⟨_, rfl⟩
  have hxe1 : (xe == 0) = false := by simpa using hxe
  have hxe2 : (xe != 0) = true := by simpa using hxe
  have hgl := hb.lt
  have hbD := hd.blk.lt
  clear hf0 z1 z2 z3 hq ht hy hb hv hr hd hpv hpl hrl hlo hE hf hn hlen hBd hns hxx
  go_enter Tryz.func17, Tryz.ntmps17
  go_wp2_with fail
  rw [← hw1]
  clear hw1
  refine (HCO.out _ (show Blk w1 g 176 (selCells [(v, f, ⟨#[42]⟩)]).toArray from HS1.out)).mono ?_
  rintro e w2 ⟨C, cc, rfl, hc2, hf2⟩
  have HQ2 := Lib.hid (HQ1.out.fr hf2 (fun h => h))
  have HT2 := Lib.hid (HT1.out.fr hf2 (fun h => h))
  have HY2 := Lib.hid (HY1.out.fr hf2 (fun h => h))
  have HS2 := Lib.hid (HS1.out.fr hf2 (fun h => h))
  have HV2 := Lib.hid (ownsRow_fr HV1.out hf2 (fun _ _ h => h))
  have HR2 := Lib.hid (HR1.out.frF hf2)
  have HD2 := Lib.hid (HD1.out.frF hf2)
  have HF2 := Lib.hid (HF1.out.trans' hf2)
  have hcb := ownsRow_base hc2 (show w.heap.size ≤ w1.heap.size by have := HZ1.out; omega)
  have HC2 := Lib.hid (show w2.ownsRow w.heap.size 9 1 (.slice C 1 cc) 1 [.string v] from hcb)
  have t0 : w2.cell? ⟨w.heap.size + 1, 0, none⟩ = some (.slice V m vc) := HT2.out.cell 0
  have t1 : w2.cell? ⟨w.heap.size + 1, 1, none⟩ = some (.slice R rows.length rc) := HT2.out.cell 1
  have HVA := Lib.hid (fun w3 (h3 : Fr (fun _ => False) w2 w3) => varsN_any 1 cc w.heap.size C [v] w3 (by decide) (fun h => absurd h (by decide)) (ownsRow_fr hcb h3 (fun _ _ h => h)) (fun j hj => absurd hj (by omega)) (fun j hj => absurd hj (by omega)))
  have HPP := Lib.hid (HPJ.out C cc w2 (fun w3 h3 => (HVA.out w3 h3).mono (fun _ _ h => h)) HV2.out HR2.out)
  clear hc2 hf2 hcb
  go_wp2_with fail
  refine HPP.out.mono ?_
  rintro e w3 ⟨tv, rfl, ⟨PV, pc, pr, pvals, rfl, hp1, hp2⟩, hf3⟩
  obtain ⟨PA, pcc, hpr⟩ := row_shape hp2.own
  subst hpr
  have HQ3 := Lib.hid (HQ2.out.fr hf3 (fun h => h))
  have HT3 := Lib.hid (HT2.out.fr hf3 (fun h => h))
  have HY3 := Lib.hid (HY2.out.fr hf3 (fun h => h))
  have HS3 := Lib.hid (HS2.out.fr hf3 (fun h => h))
  have HV3 := Lib.hid (ownsRow_fr HV2.out hf3 (fun _ _ h => h))
  have HR3 := Lib.hid (HR2.out.frF hf3)
  have HD3 := Lib.hid (HD2.out.frF hf3)
  have HC3 := Lib.hid (ownsRow_fr HC2.out hf3 (fun _ _ h => h))
  have HF3 := Lib.hid (HF2.out.trans' hf3)
  generalize (rows.map (projRow (fun _ => (p, fnd)) 1)).length = pn at *
  have hfa : Fr (fun _ => False) w3 (w3.alloc (.cells #[.slice PV 1 pc, .slice PA pn pcc] 63)) := (Fr.refl _ _).alloc _
  obtain ⟨w4, hw4⟩ : ∃ w4, w4 = w3.alloc (.cells #[.slice PV 1 pc, .slice PA pn pcc] 63) := ⟨_, rfl⟩
  obtain ⟨pb, hpb⟩ : ∃ pb, pb = w3.heap.size := ⟨_, rfl⟩
  have hp := Blk.new w3 63 #[.slice PV 1 pc, .slice PA pn pcc]
  rw [← hw4] at hfa hp
  rw [← hpb] at hp
  have HP4 := Lib.hid hp
  have hpw : w.heap.size + 2 < pb := by have := HY3.out.lt; omega
  have HQ4 := Lib.hid (HQ3.out.fr hfa (fun h => h))
  have HT4 := Lib.hid (HT3.out.fr hfa (fun h => h))
  have HY4 := Lib.hid (HY3.out.fr hfa (fun h => h))
  have HS4 := Lib.hid (HS3.out.fr hfa (fun h => h))
  have HV4 := Lib.hid (ownsRow_fr HV3.out hfa (fun _ _ h => h))
  have HR4 := Lib.hid (HR3.out.frF hfa)
  have HD4 := Lib.hid (HD3.out.frF hfa)
  have HC4 := Lib.hid (ownsRow_fr HC3.out hfa (fun _ _ h => h))
  have HF4 := Lib.hid (HF3.out.trans' hfa)
  have q0 : w3.cell? ⟨w.heap.size, 0, none⟩ = some (.string kind) := HQ3.out.cell 0
  have q1 : w3.cell? ⟨w.heap.size, 1, none⟩ = some (.string t) := HQ3.out.cell 1
  have q2 : w3.cell? ⟨w.heap.size, 2, none⟩ = some (.bool false) := HQ3.out.cell 2
  have q3 : w3.cell? ⟨w.heap.size, 3, none⟩ = some (.slice (some ⟨g, 0, none⟩) 1 sc) := HQ3.out.cell 3
  have q4 : w3.cell? ⟨w.heap.size, 4, none⟩ = some (.slice none 0 0) := HQ3.out.cell 4
  have q5 : w3.cell? ⟨w.heap.size, 5, none⟩ = some (.slice A3 n3 c3) := HQ3.out.cell 5
  have q6 : w3.cell? ⟨w.heap.size, 6, none⟩ = some (.slice none 0 0) := HQ3.out.cell 6
  have hql := HQ3.out.lt
  clear hp1 hp2 hf3 hfa hp t0 t1
  go_wp2_with fail
  rw [← hw4, ← hpb]
  clear hw4 hpb q0 q1 q2 q3 q4 q5 q6 hql
  refine (HGR.out _ (show Blk w4 g 176 (selCells [(v, f, ⟨#[42]⟩)]).toArray from HS4.out)).mono ?_
  rintro e w5 ⟨rfl, hf5⟩
  have HQ5 := Lib.hid (HQ4.out.fr hf5 (fun h => h))
  have HT5 := Lib.hid (HT4.out.fr hf5 (fun h => h))
  have HY5 := Lib.hid (HY4.out.fr hf5 (fun h => h))
  have HS5 := Lib.hid (HS4.out.fr hf5 (fun h => h))
  have HV5 := Lib.hid (ownsRow_fr HV4.out hf5 (fun _ _ h => h))
  have HR5 := Lib.hid (HR4.out.frF hf5)
  have HD5 := Lib.hid (HD4.out.frF hf5)
  have HC5 := Lib.hid (ownsRow_fr HC4.out hf5 (fun _ _ h => h))
  have HF5 := Lib.hid (HF4.out.trans' hf5)
  have HP5 := Lib.hid (HP4.out.fr hf5 (fun h => h))
  have t0 : w5.cell? ⟨w.heap.size + 1, 0, none⟩ = some (.slice V m vc) := HT5.out.cell 0
  have t1 : w5.cell? ⟨w.heap.size + 1, 1, none⟩ = some (.slice R rows.length rc) := HT5.out.cell 1
  have q6 : w5.cell? ⟨w.heap.size, 6, none⟩ = some (.slice none 0 0) := HQ5.out.cell 6
  clear hf5
  go_wp2_with fail
  refine (HGP.out _).mono ?_
  rintro e w6 ⟨gb, rfl, hg6, hgb, hf6⟩
  have HG6 := Lib.hid hg6
  have HQ6 := Lib.hid (HQ5.out.fr hf6 (fun h => h))
  have HT6 := Lib.hid (HT5.out.fr hf6 (fun h => h))
  have HY6 := Lib.hid (HY5.out.fr hf6 (fun h => h))
  have HS6 := Lib.hid (HS5.out.fr hf6 (fun h => h))
  have HV6 := Lib.hid (ownsRow_fr HV5.out hf6 (fun _ _ h => h))
  have HR6 := Lib.hid (HR5.out.frF hf6)
  have HD6 := Lib.hid (HD5.out.frF hf6)
  have HC6 := Lib.hid (ownsRow_fr HC5.out hf6 (fun _ _ h => h))
  have HF6 := Lib.hid (HF5.out.trans' hf6)
  have HP6 := Lib.hid (HP5.out.fr hf6 (fun h => h))
  have HGB := Lib.hid (show pb < gb from Nat.lt_of_lt_of_le HP5.out.lt hgb)
  clear hg6 hf6 hgb t0 t1 q6
  go_wp2_with fail
  go_loopw [10, 27] (fun ov iv wr => ov = .slice none 0 0 ∧ iv = .int .i64 0 ∧ w6 = wr) (fun _ iv _ => 1 - (intOf iv).toNat)
  case atStart => exact ⟨rfl, rfl, rfl⟩
  case round =>
    obtain ⟨rfl, rfl, rfl⟩ := hrel
    · have g0 : w6.cell? ⟨gb, 0, none⟩ = some (.slice V m vc) := HG6.out.cell 0
      have g1 : w6.cell? ⟨gb, 1, none⟩ = some (.slice R rows.length rc) := HG6.out.cell 1
      have hgbl := HG6.out.lt
      have q0 : w6.cell? ⟨w.heap.size, 0, none⟩ = some (.string kind) := HQ6.out.cell 0
      have q1 : w6.cell? ⟨w.heap.size, 1, none⟩ = some (.string t) := HQ6.out.cell 1
      have q2 : w6.cell? ⟨w.heap.size, 2, none⟩ = some (.bool false) := HQ6.out.cell 2
      have q3 : w6.cell? ⟨w.heap.size, 3, none⟩ = some (.slice (some ⟨g, 0, none⟩) 1 sc) := HQ6.out.cell 3
      have q4 : w6.cell? ⟨w.heap.size, 4, none⟩ = some (.slice none 0 0) := HQ6.out.cell 4
      have q5 : w6.cell? ⟨w.heap.size, 5, none⟩ = some (.slice A3 n3 c3) := HQ6.out.cell 5
      have q6 : w6.cell? ⟨w.heap.size, 6, none⟩ = some (.slice none 0 0) := HQ6.out.cell 6
      have hql := HQ6.out.lt
      have hfa : Fr (fun _ => False) w6 (w6.alloc (.cells #[.slice V m vc, .slice R rows.length rc] 63)) := (Fr.refl _ _).alloc _
      have HQ7 := Lib.hid (HQ6.out.fr hfa (fun h => h))
      have HT7 := Lib.hid (HT6.out.fr hfa (fun h => h))
      have HY7 := Lib.hid (HY6.out.fr hfa (fun h => h))
      have HS7 := Lib.hid (HS6.out.fr hfa (fun h => h))
      have HV7 := Lib.hid (ownsRow_fr HV6.out hfa (fun _ _ h => h))
      have HR7 := Lib.hid (HR6.out.frF hfa)
      have HD7 := Lib.hid (HD6.out.frF hfa)
      have HC7 := Lib.hid (ownsRow_fr HC6.out hfa (fun _ _ h => h))
      have HF7 := Lib.hid (HF6.out.trans' hfa)
      have HP7 := Lib.hid (HP6.out.fr hfa (fun h => h))
      have HR7' := Lib.hid (HRO.out _ (Nat.le_trans HBD.out HF7.out.size) HS7.out HD7.out)
      have hsz7 := HF7.out.size
      clear hfa
      go_wp2_with fail
      refine HR7'.out.mono ?_
      rintro e w8 ⟨vt', rfl, hd8, hf8, hown8⟩
      have hnd : ∀ j, w.heap.size ≤ j → j < w6.heap.size → ¬ (j = b ∨ j = r ∨ vt.ownBlock = some j) := fun j h _ => DN0.out j h
      have hyl := HY6.out.lt
      have hfr : Fr (fun j => j = b ∨ j = r ∨ vt.ownBlock = some j) w6 w8 := (((Fr.refl (fun _ => False) w6).alloc _).mono (fun _ _ h => h.elim)).trans' hf8
      have hy8 := HY6.out.fr hfr (hnd _ (by omega) hyl)
      have hst2 := Blk.setAll (vs := [.slice none 0 0, .slice none 0 0]) (old := [.slice none 0 0, .slice none 0 0]) hy8 rfl
      have HTH2 := Lib.hid (Blk.there (cs := [.slice none 0 0, .slice none 0 0]) hy8 (n := 2) rfl)
      have HST2 := Lib.hid hst2.1
      have HONE := Lib.hid (show (#[.slice none 0 0, .slice none 0 0] : Array Value).all (·.oneCell') = true from all_oneCell_toArray (by intro v hv; simp only [List.mem_cons, List.not_mem_nil, or_false] at hv; rcases hv with rfl | rfl <;> rfl))
      have HDF := Lib.hid (hd8.fr hst2.2 (fun e => BNE.out (w.heap.size + 2) (by omega) e) (fun e => RNE.out (w.heap.size + 2) (by omega) e.symm) (fun k hk e => by
        subst e
        exact own_blk_ne hd8.row hy8 (by decide) hk))
      have HFF := Lib.hid (((HF6.out.mono (T := fun j => j = b ∨ j = r ∨ vt.ownBlock = some j) (fun _ _ h => h.elim)).trans' hfr).trans (T := fun j => j = w.heap.size + 2) hst2.2 (fun j hj e => absurd hj (by omega)))
      have HOW := Lib.hid (fun k (h : vt'.ownBlock = some k) => (hown8 k h).imp id (fun h2 => Nat.le_trans hsz7 h2))
      have hyl8 := hy8.lt
      clear hd8 hf8 hown8 g0 g1 q0 q1 q2 q3 q4 q5 q6 hql hnd hfr hy8 hst2
      go_wp2_with (first | refine wpList_store_mid rfl 63 _ _ rfl _ _ _ rfl rfl HTH2.out inf63 HONE.out ?_)
      exact bodyPost_ret (v := .tuple #[.agg #[.slice none 0 0, .slice none 0 0], .int .i64 xe]) (resultsC2 rfl _ _ (w.heap.size + 2) 63 _ (0, 0) _ rfl HST2.out Tryz.underlying63 rfl (by kernel_rfl) _ rfl) rfl ⟨vt', rfl, HDF.out, HFF.out, HOW.out⟩

end Go.Proofs.YtebddgdkndmpjaaGreatDoor
