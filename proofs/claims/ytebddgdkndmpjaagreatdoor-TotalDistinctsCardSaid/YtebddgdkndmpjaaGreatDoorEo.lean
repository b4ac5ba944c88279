/- TotalDistincts: the law walked. -/
import Derived.Test.YtebddgdkndmpjaaGreatDoorEl
import Derived.Test.YtebddgdkndmpjaaGreatDoorEn
import Derived.Deep.CutBlock
import Derived.Deep.RegionLawGrows
import Derived.Deep.Cut
import Derived.Deep.CutRange
import Derived.WalkKit
import Derived.WalkLawsBesides
import Derived.WalkSpells
import Derived.Deep.QuietTactic
import Derived.BigRegion
import Derived.BigQuiet
import Derived.Lib.Hide
import Derived.Outline
import Derived.Deep.AppendLies
import Derived.Deep.RegionLaw
import Derived.Deep.RegionWith
import Derived.Deep.RegionHeld3
import Derived.Deep.LoopGhost
import Derived.Deep.DeepFit
import Derived.Laws.ResultCell
import Derived.Laws.RangeAny
import Derived.Deep.MidRow
import Derived.StillTailTactics
import Derived.OpenShut
namespace Go.Proofs.YtebddgdkndmpjaaGreatDoor
set_option linter.unusedVariables false
open Go.RowKit Go

theorem IsIn.frF {w w' : World} {a : Option Addr} {len cap : Nat} {zs : List D3} (h : IsIn w a len cap zs) (hf : Fr (fun _ => False) w w') : IsIn w' a len cap zs := by
  rcases h with ⟨h1, h2, h3, h4⟩ | ⟨x, h1, h2, h3, h4⟩
  · exact .inl ⟨h1, h2, h3, h4⟩
  · refine .inr ⟨x, h1, h2, h3, fun i hi => ⟨(h4 i hi).1, fun j hj => ?_⟩⟩
    have h5 := (h4 i hi).2 j hj
    obtain ⟨v, hv⟩ : ∃ v, (zs.getD i default).list[j]? = some v := ⟨_, List.getElem?_eq_getElem (show j < (zs.getD i default).list.length from hj)⟩
    rw [hv] at h5 ⊢
    exact cell_fr hf h5

/-- What the law carries from call to call. -/
structure DLs (w wr : World) (tb : Nat) (V R : Option Addr) (vc rc B : Nat) (vals : List Value) (rows : List (List Int)) : Prop where
  tab : Blk wr tb 63 #[.slice V 3 vc, .slice R rows.length rc]
  vars : wr.ownsRow B 9 1 (.slice V 3 vc) 3 (vABC.map .string)
  rows_ : RowsAt wr B (.slice R rows.length rc) vals rows
  tbl : Tb wr
  sg : Sg wr
  fr : Fr (fun _ => False) w wr
theorem DLs.frF {w wr w' : World} {tb : Nat} {V R : Option Addr} {vc rc B : Nat} {vals : List Value} {rows : List (List Int)} (h : DLs w wr tb V R vc rc B vals rows) (hf : Fr (fun _ => False) wr w') : DLs w w' tb V R vc rc B vals rows :=
  ⟨h.tab.fr hf (fun h => h), ownsRow_fr h.vars hf (fun _ _ h => h), h.rows_.frF hf, h.tbl.frF hf, h.sg.frF hf, h.fr.trans' hf⟩

def pRows (rows : List (List Int)) : List (List Int) := rows.map (projRow pfCA 2)
def dRows (rows : List (List Int)) : List (List Int) := keepL (pRows rows) (keepD (pRows rows)) (pRows rows).length
theorem pRows_ok (rows : List (List Int)) (hok : RowsOk 3 rows) : RowsOk 2 (pRows rows) := proj_ok pfCA 2 3 rows hok pl_ca
theorem dRows_ok (rows : List (List Int)) (hok : RowsOk 3 rows) : RowsOk 2 (dRows rows) := keepL_ok 2 _ _ (pRows_ok rows hok)
theorem total_ca (kind t : ByteArray) (dis : Bool) (SA A3 V R : Option Addr) (sc n3 c3 vc rc Bs B : Nat) (vals : List Value) (rows : List (List Int)) (dv : Value) (w0 w : World) (tb : Nat) (hd : DLs w0 w tb V R vc rc B vals rows) (hok : RowsOk 3 rows) (hb : w.ownsRow Bs 176 3 (.slice SA 2 sc) 2 (selCells caS)) :
    Calls Tryz.prog 17 #[.agg #[.string kind, .string t, .bool dis, .slice SA 2 sc, .slice none 0 0, .slice A3 n3 c3, .slice none 0 0], .agg #[.slice V 3 vc, .slice R rows.length rc], dv] w (PlainPost w 2 vAC (if dis = true then dRows rows else pRows rows)) := by
  have h := total_plain kind t dis SA none A3 none V R 2 sc 0 n3 c3 0 3 vc rc Bs B B caS pfCA vals rows vABC dv w (by decide) (by decide) rfl (by decide +kernel) (by decide) rfl (by have := Blk.lt hd.sg; omega) (by rw [sort_ca]; exact ac_ne) (by rw [sort_ca]; exact var_ca) pl_ca hok hd.tbl hb hd.vars hd.rows_
  rw [sort_ca] at h
  exact h
/-- A table of two columns, carried from call to call. -/
theorem TabAt.frF {w w' : World} {B m : Nat} {tv : Value} {ss : List ByteArray} {rows : List (List Int)} (h : TabAt w B m tv ss rows) (hf : Fr (fun _ => False) w w') : TabAt w' B m tv ss rows := by
  obtain ⟨V, vc, vr, vals, rfl, h1, h2, h3⟩ := h
  exact ⟨V, vc, vr, vals, rfl, h1, ownsRow_fr h2 hf (fun _ _ h => h), h3.frF hf⟩

theorem good_ac (B : Nat) (tv : Value) (rows : List (List Int)) (w : World) (h : TabAt w B 2 tv vAC rows) (hok : RowsOk 2 rows) : Calls Tryz.prog 18 #[tv] w (IsB true w) := by
  obtain ⟨V, vc, vr, vals, rfl, _, h2, h3⟩ := h
  exact tabGood_any vc 2 B B V vAC vr vals rows w (by decide) hok.1 hok.2.1 (fun i hi k hk => (hok.2.2 i hi k hk).1) h3 ac_less h2

def TabPost (w : World) (rows : List (List Int)) (e : Ending) (w' : World) : Prop := ∃ tv, e = .returned tv ∧ TabAt w' w.heap.size 2 tv vAC rows ∧ Fr (fun _ => False) w w'
theorem dist_ac (B : Nat) (tv : Value) (rows : List (List Int)) (w : World) (h : TabAt w B 2 tv vAC rows) (hok : RowsOk 2 rows) (hsz : 4 ≤ w.heap.size) (ht : Tb w) : Calls Tryz.prog 20 #[tv] w (TabPost w (keepL rows (keepD rows) rows.length)) := by
  obtain ⟨V, vc, vr, vals, rfl, h1, h2, h3⟩ := h
  refine (distinct_any 2 vc B B V vr vals rows vAC w (by decide) h1 hok.1 hok.2.1 hok.2.2 hsz ht h2 h3).mono ?_
  rintro e w' ⟨V', vc', vr', vals', rfl, k1, k2, k3, k4⟩
  exact ⟨_, rfl, ⟨V', vc', vr', vals', rfl, k1, k2, k3⟩, k4⟩
theorem proj_ac {w0 w : World} {tb : Nat} {V R : Option Addr} {vc rc B : Nat} {vals : List Value} {rows : List (List Int)} (hd : DLs w0 w tb V R vc rc B vals rows) (hok : RowsOk 3 rows) (g nc Bn : Nat) (hn : w.ownsRow Bn 9 1 (.slice (some ⟨g, 0, none⟩) 2 nc) 2 (vAC.map .string)) :
    Calls Tryz.prog 21 #[.agg #[.slice V 3 vc, .slice R rows.length rc], .slice (some ⟨g, 0, none⟩) 2 nc] w (TabPost w (pRows rows)) := by
  refine (project_any pfCA 2 3 vc B B 2 nc V (some ⟨g, 0, none⟩) vABC vAC (.slice R rows.length rc) vals rows w (by decide) (by decide) rfl rfl var_ca pl_ca hok.2.1 (fun i hi k hk => (hok.2.2 i hi k hk).1) hok.1 (fun w1 hf1 => ?_) hd.vars hd.rows_).mono ?_
  · have h := varsS_any g 2 nc vAC w1 (by decide) (by decide) (fun j hj => str_cell (ownsRow_fr hn hf1 (fun _ _ h => h)) j hj) rfl (by rw [sort_ac]; exact ac_ne)
    rw [sort_ac] at h
    refine h.mono ?_
    rintro e w2 ⟨A, c', rfl, h1, h2⟩
    exact ⟨_, c', rfl, h1, h2⟩
  · rintro e w' ⟨tv, rfl, ⟨V', vc', vr', vals', rfl, h1, h2⟩, h3⟩
    exact ⟨_, rfl, ⟨V', vc', vr', vals', rfl, (fun h => absurd h (by decide)), h1, h2⟩, h3⟩
theorem same_ac (Ba Bb : Nat) (ta tb : Value) (rows : List (List Int)) (w : World) (hok : RowsOk 2 rows) (hsz : 4 ≤ w.heap.size) (ht : Tb w) (ha : TabAt w Ba 2 ta vAC rows) (hb : TabAt w Bb 2 tb vAC rows) : Calls Tryz.prog 19 #[ta, tb] w (IsB true w) := same_tab 2 Ba Bb ta tb rows vAC w (by decide) hok hsz ht ha hb

theorem row_lit2 (Y : World) : (Y.alloc (.cells #[.string ⟨#[97]⟩, .string ⟨#[99]⟩] 9)).ownsRow Y.heap.size 9 1 (.slice (some ⟨Y.heap.size, 0, none⟩) 2 2) 2 (vAC.map .string) :=
  World.ownsRow_lit (base := Y.heap.size) (e := 9) (size := 1) Y #[.string ⟨#[97]⟩, .string ⟨#[99]⟩] 2 (Nat.le_refl _) (by decide) rfl

set_option maxRecDepth 100000 in
set_option maxHeartbeats 40000000 in
theorem distinctsLaw_any (a : Option Addr) (len cap : Nat) (zs : List D3) (w : World) (hin : IsIn w a len cap zs) (hlen : len ≤ maxLen) (hg : Sg w) (ht : Tb w) : Calls Tryz.prog 5 #[.slice a len cap] w (IsB true w) := by
  have HA := Lib.hid (fun w => awake15_any w)
  have HBU := Lib.hid (fun w h => build_any a len cap zs w h hlen)
  have HIN := Lib.hid hin
  have HSG := Lib.hid hg
  have HTB := Lib.hid ht
  have hw0 : 10 < w.heap.size := Blk.lt hg
  have hp1 := Lib.hid (fun w h => all_parse w h)
  have hp2 := Lib.hid (fun w h => dis_parse w h)
  unfold allT at hp1
  unfold disT at hp2
  clear hin hlen hg ht
  go_enter Tryz.func5, Tryz.ntmps5
  go_wp2_with fail
  refine (HA.out _).mono ?_
  rintro e w1 ⟨rfl, hf1⟩
  have HF1 := Lib.hid hf1
  have HIN1 := Lib.hid (HIN.out.frF hf1)
  clear hf1
  go_wp2_with fail
  refine (HBU.out _ HIN1.out).mono ?_
  rintro e w2 (⟨rfl, hf2⟩ | ⟨n, b, r, vt, tv, vf, vals, hn8, hnz, rfl, hd2, htab, href, hf2, _⟩)
  · have HF2 := Lib.hid (HF1.out.trans' hf2)
    clear hf2
    go_wp2_with fail
    go_ret
    exact ⟨rfl, HF2.out.alloc _⟩
  · have hln := bTo_len zs n
    have hok := bTo_ok zs n hn8
    obtain ⟨rows, hrows⟩ : ∃ rows, rows = (bTo zs n).rows := ⟨_, rfl⟩
    rw [← hrows] at htab hok
    have hl1 := hln.1
    rw [← hrows] at hl1
    obtain ⟨V, vc, vr, tvals, rfl, hv2, hr2⟩ := htab
    obtain ⟨R, rc, hvr⟩ := row_shape hr2.own
    subst hvr
    obtain ⟨FA, fc, hvf⟩ := row_shape href.own
    subst hvf
    rw [hln.2.1]
    have hfa : Fr (fun _ => False) w2 (w2.alloc (.cells #[.slice V 3 vc, .slice R rows.length rc] 63)) := (Fr.refl _ _).alloc _
    have HD3 := Lib.hid (show DLs w (w2.alloc (.cells #[.slice V 3 vc, .slice R rows.length rc] 63)) w2.heap.size V R vc rc w1.heap.size tvals rows from
      ⟨Blk.new w2 63 _, ownsRow_fr hv2 hfa (fun _ _ h => h), hr2.frF hfa, HTB.out.frF ((HF1.out.trans' hf2).trans' hfa), HSG.out.frF ((HF1.out.trans' hf2).trans' hfa), (HF1.out.trans' hf2).trans' hfa⟩)
    have hsz2 := (HF1.out.trans' hf2).size
    clear hrows href hln hnz hd2 hf2 hfa hv2 hr2
    subst hl1
    go_wp2_with fail
    generalize w2.alloc (.cells #[.slice V 3 vc, .slice R rows.length rc] 63) = w3 at *
    generalize w2.heap.size = tb at *
    refine (hp1.out _ HD3.out.sg).mono ?_
    rintro e w4 ⟨cs, rfl, ⟨SA, sc, gv, rfl, hs4, GA, gc, rfl⟩, hf4⟩
    change w4.ownsRow w3.heap.size 176 3 (.slice SA 2 sc) 2 (selCells caS) at hs4
    have HD4 := Lib.hid (HD3.out.frF hf4)
    have HS4 := Lib.hid hs4
    clear hf4 hs4
    simp only [show caS.length = 2 from rfl]
    have hfa : Fr (fun _ => False) w4 (w4.alloc (.cells #[.string tRS, .string ⟨#[117, 58, 111]⟩, .bool false, .slice SA 2 sc, .slice none 0 0, .slice GA 1 gc, .slice none 0 0] 30)) := (Fr.refl _ _).alloc _
    have HD5 := Lib.hid (HD4.out.frF hfa)
    have HS5 := Lib.hid (ownsRow_fr HS4.out hfa (fun _ _ h => h))
    have HQ5 := Lib.hid (Blk.new w4 30 #[.string tRS, .string ⟨#[117, 58, 111]⟩, .bool false, .slice SA 2 sc, .slice none 0 0, .slice GA 1 gc, .slice none 0 0])
    clear hfa
    go_wp2_with fail
    generalize w4.alloc (.cells #[.string tRS, .string ⟨#[117, 58, 111]⟩, .bool false, .slice SA 2 sc, .slice none 0 0, .slice GA 1 gc, .slice none 0 0] 30) = w5 at *
    generalize w4.heap.size = qb at *
    refine (hp2.out _ HD5.out.sg).mono ?_
    rintro e w6 ⟨cs, rfl, ⟨SA2, sc2, gv, rfl, hs6, GA2, gc2, rfl⟩, hf6⟩
    change w6.ownsRow w5.heap.size 176 3 (.slice SA2 2 sc2) 2 (selCells caS) at hs6
    simp only [show caS.length = 2 from rfl]
    have hfa : Fr (fun _ => False) w6 (w6.alloc (.cells #[.string tRS, .string ⟨#[117, 58, 111]⟩, .bool true, .slice SA2 2 sc2, .slice none 0 0, .slice GA2 1 gc2, .slice none 0 0] 30)) := (Fr.refl _ _).alloc _
    have HD7 := Lib.hid ((HD5.out.frF hf6).frF hfa)
    have HS7 := Lib.hid (ownsRow_fr (ownsRow_fr HS5.out hf6 (fun _ _ h => h)) hfa (fun _ _ h => h))
    have HQ7 := Lib.hid ((HQ5.out.fr hf6 (fun h => h)).fr hfa (fun h => h))
    have HT7 := Lib.hid (ownsRow_fr hs6 hfa (fun _ _ h => h))
    have HP7 := Lib.hid (Blk.new w6 30 #[.string tRS, .string ⟨#[117, 58, 111]⟩, .bool true, .slice SA2 2 sc2, .slice none 0 0, .slice GA2 1 gc2, .slice none 0 0])
    have HRGQ := Lib.hid (blkRange HQ7.out)
    have hlq := HQ7.out.lt
    have hlt7 := HD7.out.tab.lt
    have t0 : (w6.alloc (.cells #[.string tRS, .string ⟨#[117, 58, 111]⟩, .bool true, .slice SA2 2 sc2, .slice none 0 0, .slice GA2 1 gc2, .slice none 0 0] 30)).cell? ⟨tb, 0, none⟩ = some (.slice V 3 vc) := HD7.out.tab.cell 0
    have t1 : (w6.alloc (.cells #[.string tRS, .string ⟨#[117, 58, 111]⟩, .bool true, .slice SA2 2 sc2, .slice none 0 0, .slice GA2 1 gc2, .slice none 0 0] 30)).cell? ⟨tb, 1, none⟩ = some (.slice R rows.length rc) := HD7.out.tab.cell 1
    clear hfa hf6 hs6
    go_wp2_with (first | refine wpList_load_mid rfl 30 _ rfl qb 0 rfl _ _ HRGQ.out Tryz.underlying30 rfl inf30 ?_)
    generalize w6.alloc (.cells #[.string tRS, .string ⟨#[117, 58, 111]⟩, .bool true, .slice SA2 2 sc2, .slice none 0 0, .slice GA2 1 gc2, .slice none 0 0] 30) = w7 at *
    generalize w6.heap.size = pb at *
    have htot := total_ca tRS ⟨#[117, 58, 111]⟩ false SA GA V R sc 1 gc vc rc _ _ tvals rows (.pointer (some ⟨b, 0, none⟩)) w w7 tb HD7.out hok HS7.out
    rw [if_neg (by decide)] at htot
    refine htot.mono ?_
    rintro e w8 ⟨tv1, rfl, ⟨V1, vc1, vr1, vals1, rfl, hV1, hv8, hr8⟩, hf8⟩
    obtain ⟨R1, rc1, hvr⟩ := row_shape hr8.own
    subst hvr
    have hl8 : (pRows rows).length = rows.length := by unfold pRows; rw [List.length_map]
    rw [hl8] at hr8 ⊢
    clear htot hl8
    have hfa : Fr (fun _ => False) w8 (w8.alloc (.cells #[.slice V1 2 vc1, .slice R1 rows.length rc1] 63)) := (Fr.refl _ _).alloc _
    have HD9 := Lib.hid ((HD7.out.frF hf8).frF hfa)
    have HT9 := Lib.hid (ownsRow_fr (ownsRow_fr HT7.out hf8 (fun _ _ h => h)) hfa (fun _ _ h => h))
    have HP9 := Lib.hid ((HP7.out.fr hf8 (fun h => h)).fr hfa (fun h => h))
    have HA9 := Lib.hid (show TabAt (w8.alloc (.cells #[.slice V1 2 vc1, .slice R1 rows.length rc1] 63)) w7.heap.size 2 (.agg #[.slice V1 2 vc1, .slice R1 rows.length rc1]) vAC (pRows rows) from ⟨V1, vc1, _, vals1, rfl, hV1, ownsRow_fr hv8 hfa (fun _ _ h => h), hr8.frF hfa⟩)
    have HAB9 := Lib.hid (Blk.new w8 63 #[.slice V1 2 vc1, .slice R1 rows.length rc1])
    have HRGP := Lib.hid (blkRange HP9.out)
    have hlp9 := HP9.out.lt
    have hlt9 := HD9.out.tab.lt
    have t0 : (w8.alloc (.cells #[.slice V1 2 vc1, .slice R1 rows.length rc1] 63)).cell? ⟨tb, 0, none⟩ = some (.slice V 3 vc) := HD9.out.tab.cell 0
    have t1 : (w8.alloc (.cells #[.slice V1 2 vc1, .slice R1 rows.length rc1] 63)).cell? ⟨tb, 1, none⟩ = some (.slice R rows.length rc) := HD9.out.tab.cell 1
    clear hfa hf8 hv8 hr8 hlq hlt7
    go_wp2_with (first | refine wpList_load_mid rfl 30 _ rfl pb 0 rfl _ _ HRGP.out Tryz.underlying30 rfl inf30 ?_)
    generalize w8.alloc (.cells #[.slice V1 2 vc1, .slice R1 rows.length rc1] 63) = w9 at *
    generalize w8.heap.size = ab at *
    have htot := total_ca tRS ⟨#[117, 58, 111]⟩ true SA2 GA2 V R sc2 1 gc2 vc rc _ _ tvals rows (.pointer (some ⟨b, 0, none⟩)) w w9 tb HD9.out hok HT9.out
    rw [if_pos rfl] at htot
    refine htot.mono ?_
    rintro e w10 ⟨tv2, rfl, ⟨V2, vc2, vr2, vals2, rfl, hV2, hv10, hr10⟩, hf10⟩
    obtain ⟨R2, rc2, hvr⟩ := row_shape hr10.own
    subst hvr
    clear htot
    have HKP := Lib.hid (pRows_ok rows hok)
    have HKD := Lib.hid (dRows_ok rows hok)
    have hpl2 : (pRows rows).length = rows.length := by unfold pRows; rw [List.length_map]
    have hdl : (dRows rows).length ≤ 4096 := (dRows_ok rows hok).1
    have HPL := Lib.hid hpl2
    obtain ⟨m, hm⟩ : ∃ m, m = (dRows rows).length := ⟨_, rfl⟩
    rw [← hm] at hdl ⊢
    have HM := Lib.hid hm
    have hfa : Fr (fun _ => False) w10 (w10.alloc (.cells #[.slice V2 2 vc2, .slice R2 m rc2] 63)) := (Fr.refl _ _).alloc _
    have HD11 := Lib.hid ((HD9.out.frF hf10).frF hfa)
    have HA11 := Lib.hid ((HA9.out.frF hf10).frF hfa)
    have HAB11 := Lib.hid ((HAB9.out.fr hf10 (fun h => h)).fr hfa (fun h => h))
    have HO11 := Lib.hid (show TabAt (w10.alloc (.cells #[.slice V2 2 vc2, .slice R2 m rc2] 63)) w9.heap.size 2 (.agg #[.slice V2 2 vc2, .slice R2 m rc2]) vAC (dRows rows) from ⟨V2, vc2, _, vals2, by rw [hm], hV2, ownsRow_fr hv10 hfa (fun _ _ h => h), hr10.frF hfa⟩)
    have HOB11 := Lib.hid (Blk.new w10 63 #[.slice V2 2 vc2, .slice R2 m rc2])
    have hlab := HAB11.out.lt
    have a0 : (w10.alloc (.cells #[.slice V2 2 vc2, .slice R2 m rc2] 63)).cell? ⟨ab, 0, none⟩ = some (.slice V1 2 vc1) := HAB11.out.cell 0
    have a1 : (w10.alloc (.cells #[.slice V2 2 vc2, .slice R2 m rc2] 63)).cell? ⟨ab, 1, none⟩ = some (.slice R1 rows.length rc1) := HAB11.out.cell 1
    clear hfa hf10 hv10 hr10 hlp9 hlt9 t0 t1 hpl2 hm
    go_wp2_with fail
    generalize w10.alloc (.cells #[.slice V2 2 vc2, .slice R2 m rc2] 63) = w11 at *
    generalize w10.heap.size = ob at *
    refine (good_ac _ _ _ _ HA11.out HKP.out).mono ?_
    rintro e w12 ⟨rfl, hf12⟩
    have HD12 := Lib.hid (HD11.out.frF hf12)
    have HA12 := Lib.hid (HA11.out.frF hf12)
    have HO12 := Lib.hid (HO11.out.frF hf12)
    have HAB12 := Lib.hid (HAB11.out.fr hf12 (fun h => h))
    have HOB12 := Lib.hid (HOB11.out.fr hf12 (fun h => h))
    have o0 : w12.cell? ⟨ob, 0, none⟩ = some (.slice V2 2 vc2) := HOB12.out.cell 0
    have o1 : w12.cell? ⟨ob, 1, none⟩ = some (.slice R2 m rc2) := HOB12.out.cell 1
    have hlob := HOB12.out.lt
    clear hf12 a0 a1 hlab
    go_wp2_with fail
    refine (good_ac _ _ _ _ HO12.out HKD.out).mono ?_
    rintro e w13 ⟨rfl, hf13⟩
    have HD13 := Lib.hid (HD12.out.frF hf13)
    have HA13 := Lib.hid (HA12.out.frF hf13)
    have HO13 := Lib.hid (HO12.out.frF hf13)
    have HAB13 := Lib.hid (HAB12.out.fr hf13 (fun h => h))
    have HOB13 := Lib.hid (HOB12.out.fr hf13 (fun h => h))
    have a1 : w13.cell? ⟨ab, 1, none⟩ = some (.slice R1 rows.length rc1) := HAB13.out.cell 1
    have hlab := HAB13.out.lt
    clear hf13 o0 o1 hlob
    go_upto_region 12 with (fail)
    have hszw := HD13.out.fr.size
    have HDO := Lib.hid (fun wy (hf : Fr (fun _ => False) w13 wy) => dist_ac _ _ _ wy (HO13.out.frF hf) HKD.out (by have := hf.size; omega) (HD13.out.tbl.frF hf))
    rw [show keepL (dRows rows) (keepD (dRows rows)) (dRows rows).length = dRows rows from keepD_idem (pRows rows)] at HDO
    have HDA := Lib.hid (fun wy (hf : Fr (fun _ => False) w13 wy) => dist_ac _ _ _ wy (HA13.out.frF hf) HKP.out (by have := hf.size; omega) (HD13.out.tbl.frF hf))
    rw [show keepL (pRows rows) (keepD (pRows rows)) (pRows rows).length = dRows rows from rfl] at HDA
    have HSO := Lib.hid (fun wy tv B (hf : Fr (fun _ => False) w13 wy) (ht : TabAt wy B 2 tv vAC (dRows rows)) => same_ac _ B _ tv _ wy HKD.out (by have := hf.size; omega) (HD13.out.tbl.frF hf) (HO13.out.frF hf) ht)
    have HSA := Lib.hid (fun wy tv B (hf : Fr (fun _ => False) w13 wy) (ht : TabAt wy B 2 tv vAC (pRows rows)) => same_ac _ B _ tv _ wy HKP.out (by have := hf.size; omega) (HD13.out.tbl.frF hf) (HA13.out.frF hf) ht)
    have HPJ := Lib.hid (fun wy g nc Bn (hf : Fr (fun _ => False) w13 wy) hn => proj_ac (HD13.out.frF hf) hok g nc Bn hn)
    have o0 : w13.cell? ⟨ob, 0, none⟩ = some (.slice V2 2 vc2) := HOB13.out.cell 0
    have o1 : w13.cell? ⟨ob, 1, none⟩ = some (.slice R2 m rc2) := HOB13.out.cell 1
    have a0 : w13.cell? ⟨ab, 0, none⟩ = some (.slice V1 2 vc1) := HAB13.out.cell 0
    have t0 : w13.cell? ⟨tb, 0, none⟩ = some (.slice V 3 vc) := HD13.out.tab.cell 0
    have t1 : w13.cell? ⟨tb, 1, none⟩ = some (.slice R rows.length rc) := HD13.out.tab.cell 1
    have HSX := Lib.hid (fun wy (hf : Fr (fun _ => False) w13 wy) => (⟨cell_fr hf o0, cell_fr hf o1, cell_fr hf a0, cell_fr hf a1, cell_fr hf t0, cell_fr hf t1, hf⟩ : wy.cell? ⟨ob, 0, none⟩ = some (.slice V2 2 vc2) ∧ wy.cell? ⟨ob, 1, none⟩ = some (.slice R2 m rc2) ∧ wy.cell? ⟨ab, 0, none⟩ = some (.slice V1 2 vc1) ∧ wy.cell? ⟨ab, 1, none⟩ = some (.slice R1 rows.length rc1) ∧ wy.cell? ⟨tb, 0, none⟩ = some (.slice V 3 vc) ∧ wy.cell? ⟨tb, 1, none⟩ = some (.slice R rows.length rc) ∧ Fr (fun _ => False) w13 wy))
    have HFA := Lib.hid HD13.out.fr
    clear o0 o1 a0 a1 t0 t1 hlab
    refine wp_region_noPanic ?_
    refine wp_region_held_drew (S := (fun w' => w'.cell? ⟨ob, 0, none⟩ = some (.slice V2 2 vc2) ∧ w'.cell? ⟨ob, 1, none⟩ = some (.slice R2 m rc2) ∧ w'.cell? ⟨ab, 0, none⟩ = some (.slice V1 2 vc1) ∧ w'.cell? ⟨ab, 1, none⟩ = some (.slice R1 rows.length rc1) ∧ w'.cell? ⟨tb, 0, none⟩ = some (.slice V 3 vc) ∧ w'.cell? ⟨tb, 1, none⟩ = some (.slice R rows.length rc) ∧ Fr (fun _ => False) w13 w')) (by kernel_rfl) ?_ (fun hHeld => ?_)
    · try dsimp only
      first | assumption | exact HSX.out _ ((Fr.refl _ _).drew) | exact HSX.out _ (Fr.trans' (And.right (And.right (And.right (And.right (And.right (And.right ‹_ ∧ _ ∧ _ ∧ _ ∧ _ ∧ _ ∧ Fr (fun _ => False) _ _›)))))) ‹Fr (fun _ => False) _ _›) | exact HSX.out _ (Fr.alloc (And.right (And.right (And.right (And.right (And.right (And.right ‹_ ∧ _ ∧ _ ∧ _ ∧ _ ∧ _ ∧ Fr (fun _ => False) _ _›)))))) _)
    refine wpAnyH_take (i := 0) (oi := _) (v := ?_) (by simp only [List.getElem?_toArray, List.getElem?_cons_zero]; rfl) (by kernel_rfl) (by kernel_rfl) (by kernel_rfl) (fun _ _ _ h => h) (Or.inl ⟨by rfl, ?_⟩) (by assumption) ?_
    rotate_left
    · intro w hSw
      try dsimp only at hSw
      go_simp
      all_goals (with_reducible rfl)
    try simp only [Act.put, List.setIfInBounds_toArray, List.set_cons_zero, List.set_cons_succ]
    refine wpAnyH_take (i := 1) (oi := _) (v := ?_) (by simp only [List.getElem?_toArray, List.getElem?_cons_zero, List.getElem?_cons_succ]; rfl) (by kernel_rfl) (by kernel_rfl) (by kernel_rfl) (fun _ _ _ h => h) (Or.inl ⟨by rfl, ?_⟩) (by assumption) ?_
    rotate_left
    · intro w hSw
      try dsimp only at hSw
      go_simp
      all_goals (with_reducible rfl)
    try simp only [Act.put, List.setIfInBounds_toArray, List.set_cons_zero, List.set_cons_succ]
    refine wpAnyH_ready (rs := [2]) (by kernel_rfl) (by simp) ?_
    refine AllReadyH.cons (o := _) (by simp only [List.getElem?_toArray, List.getElem?_cons_zero, List.getElem?_cons_succ]; rfl) (fun K hK => ?_) ?_
    · skip
      go_simp
      go_at_call 20
      refine (HDO.out _ (And.right (And.right (And.right (And.right (And.right (And.right ‹_ ∧ _ ∧ _ ∧ _ ∧ _ ∧ _ ∧ Fr (fun _ => False) _ _›))))))).mono ?_
      rintro e wA ⟨tvA, rfl, hTA, hfG⟩
      refine hK.out _ _ ?_ (fun hHeld => ?_)
      · try dsimp only
        first | assumption | exact HSX.out _ ((Fr.refl _ _).drew) | exact HSX.out _ (Fr.trans' (And.right (And.right (And.right (And.right (And.right (And.right ‹_ ∧ _ ∧ _ ∧ _ ∧ _ ∧ _ ∧ Fr (fun _ => False) _ _›)))))) ‹Fr (fun _ => False) _ _›) | exact HSX.out _ (Fr.alloc (And.right (And.right (And.right (And.right (And.right (And.right ‹_ ∧ _ ∧ _ ∧ _ ∧ _ ∧ _ ∧ Fr (fun _ => False) _ _›)))))) _)
      clear hK K
      try simp only [Act.put, List.setIfInBounds_toArray, List.set_cons_zero, List.set_cons_succ]
      refine wpAnyH_ready (rs := [3]) (by kernel_rfl) (by simp) ?_
      refine AllReadyH.cons (o := _) (by simp only [List.getElem?_toArray, List.getElem?_cons_zero, List.getElem?_cons_succ]; rfl) (fun K hK => ?_) ?_
      · skip
        go_simp
        go_at_call 19
        refine (HSO.out _ tvA _ (And.right (And.right (And.right (And.right (And.right (And.right ‹_ ∧ _ ∧ _ ∧ _ ∧ _ ∧ _ ∧ Fr (fun _ => False) _ _›)))))) hTA).mono ?_
        rintro e wB ⟨rfl, hfG⟩
        refine hK.out _ _ ?_ (fun hHeld => ?_)
        · try dsimp only
          first | assumption | exact HSX.out _ ((Fr.refl _ _).drew) | exact HSX.out _ (Fr.trans' (And.right (And.right (And.right (And.right (And.right (And.right ‹_ ∧ _ ∧ _ ∧ _ ∧ _ ∧ _ ∧ Fr (fun _ => False) _ _›)))))) ‹Fr (fun _ => False) _ _›) | exact HSX.out _ (Fr.alloc (And.right (And.right (And.right (And.right (And.right (And.right ‹_ ∧ _ ∧ _ ∧ _ ∧ _ ∧ _ ∧ Fr (fun _ => False) _ _›)))))) _)
        clear hK K
        try simp only [Act.put, List.setIfInBounds_toArray, List.set_cons_zero, List.set_cons_succ]
        refine wpAnyH_take (i := 4) (oi := _) (v := ?_) (by simp only [List.getElem?_toArray, List.getElem?_cons_zero, List.getElem?_cons_succ]; rfl) (by kernel_rfl) (by kernel_rfl) (by kernel_rfl) (fun _ _ _ h => h) (Or.inl ⟨by rfl, ?_⟩) (by assumption) ?_
        rotate_left
        · intro w hSw
          try dsimp only at hSw
          go_simp
          all_goals (with_reducible rfl)
        try simp only [Act.put, List.setIfInBounds_toArray, List.set_cons_zero, List.set_cons_succ]
        refine wpAnyH_take (i := 5) (oi := _) (v := ?_) (by simp only [List.getElem?_toArray, List.getElem?_cons_zero, List.getElem?_cons_succ]; rfl) (by kernel_rfl) (by kernel_rfl) (by kernel_rfl) (fun _ _ _ h => h) (Or.inl ⟨by rfl, ?_⟩) (by assumption) ?_
        rotate_left
        · intro w hSw
          try dsimp only at hSw
          go_simp
          all_goals (with_reducible rfl)
        try simp only [Act.put, List.setIfInBounds_toArray, List.set_cons_zero, List.set_cons_succ]
        refine wpAnyH_take (i := 6) (oi := _) (v := ?_) (by simp only [List.getElem?_toArray, List.getElem?_cons_zero, List.getElem?_cons_succ]; rfl) (by kernel_rfl) (by kernel_rfl) (by kernel_rfl) (fun _ _ _ h => h) (Or.inl ⟨by rfl, ?_⟩) (by assumption) ?_
        rotate_left
        · intro w hSw
          try dsimp only at hSw
          go_simp
          all_goals (with_reducible rfl)
        try simp only [Act.put, List.setIfInBounds_toArray, List.set_cons_zero, List.set_cons_succ]
        refine wpAnyH_ready (rs := [7]) (by kernel_rfl) (by simp) ?_
        refine AllReadyH.cons (o := _) (by simp only [List.getElem?_toArray, List.getElem?_cons_zero, List.getElem?_cons_succ]; rfl) (fun K hK => ?_) ?_
        · skip
          go_simp
          go_at_call 20
          refine (HDA.out _ (And.right (And.right (And.right (And.right (And.right (And.right ‹_ ∧ _ ∧ _ ∧ _ ∧ _ ∧ _ ∧ Fr (fun _ => False) _ _›))))))).mono ?_
          rintro e wC ⟨tvC, rfl, hTC, hfG⟩
          refine hK.out _ _ ?_ (fun hHeld => ?_)
          · try dsimp only
            first | assumption | exact HSX.out _ ((Fr.refl _ _).drew) | exact HSX.out _ (Fr.trans' (And.right (And.right (And.right (And.right (And.right (And.right ‹_ ∧ _ ∧ _ ∧ _ ∧ _ ∧ _ ∧ Fr (fun _ => False) _ _›)))))) ‹Fr (fun _ => False) _ _›) | exact HSX.out _ (Fr.alloc (And.right (And.right (And.right (And.right (And.right (And.right ‹_ ∧ _ ∧ _ ∧ _ ∧ _ ∧ _ ∧ Fr (fun _ => False) _ _›)))))) _)
          clear hK K
          try simp only [Act.put, List.setIfInBounds_toArray, List.set_cons_zero, List.set_cons_succ]
          refine wpAnyH_ready (rs := [8]) (by kernel_rfl) (by simp) ?_
          refine AllReadyH.cons (o := _) (by simp only [List.getElem?_toArray, List.getElem?_cons_zero, List.getElem?_cons_succ]; rfl) (fun K hK => ?_) ?_
          · skip
            go_simp
            go_at_call 19
            refine (HSO.out _ tvC _ (And.right (And.right (And.right (And.right (And.right (And.right ‹_ ∧ _ ∧ _ ∧ _ ∧ _ ∧ _ ∧ Fr (fun _ => False) _ _›)))))) hTC).mono ?_
            rintro e wD ⟨rfl, hfG⟩
            refine hK.out _ _ ?_ (fun hHeld => ?_)
            · try dsimp only
              first | assumption | exact HSX.out _ ((Fr.refl _ _).drew) | exact HSX.out _ (Fr.trans' (And.right (And.right (And.right (And.right (And.right (And.right ‹_ ∧ _ ∧ _ ∧ _ ∧ _ ∧ _ ∧ Fr (fun _ => False) _ _›)))))) ‹Fr (fun _ => False) _ _›) | exact HSX.out _ (Fr.alloc (And.right (And.right (And.right (And.right (And.right (And.right ‹_ ∧ _ ∧ _ ∧ _ ∧ _ ∧ _ ∧ Fr (fun _ => False) _ _›)))))) _)
            clear hK K
            try simp only [Act.put, List.setIfInBounds_toArray, List.set_cons_zero, List.set_cons_succ]
            refine wpAnyH_take (i := 9) (oi := _) (v := ?_) (by simp only [List.getElem?_toArray, List.getElem?_cons_zero, List.getElem?_cons_succ]; rfl) (by kernel_rfl) (by kernel_rfl) (by kernel_rfl) (fun _ _ _ h => h) (Or.inl ⟨by rfl, ?_⟩) (by assumption) ?_
            rotate_left
            · intro w hSw
              try dsimp only at hSw
              go_simp
              all_goals (with_reducible rfl)
            try simp only [Act.put, List.setIfInBounds_toArray, List.set_cons_zero, List.set_cons_succ]
            refine wpAnyH_take (i := 10) (oi := _) (v := ?_) (by simp only [List.getElem?_toArray, List.getElem?_cons_zero, List.getElem?_cons_succ]; rfl) (by kernel_rfl) (by kernel_rfl) (by kernel_rfl) (fun _ _ _ h => h) (Or.inl ⟨by rfl, ?_⟩) (by assumption) ?_
            rotate_left
            · intro w hSw
              try dsimp only at hSw
              go_simp
              all_goals (with_reducible rfl)
            try simp only [Act.put, List.setIfInBounds_toArray, List.set_cons_zero, List.set_cons_succ]
            refine wpAnyH_take (i := 11) (oi := _) (v := ?_) (by simp only [List.getElem?_toArray, List.getElem?_cons_zero, List.getElem?_cons_succ]; rfl) (by kernel_rfl) (by kernel_rfl) (by kernel_rfl) (fun _ _ _ h => h) (Or.inl ⟨by rfl, ?_⟩) (by assumption) ?_
            rotate_left
            · intro w hSw
              try dsimp only at hSw
              go_simp
              all_goals (with_reducible rfl)
            try simp only [Act.put, List.setIfInBounds_toArray, List.set_cons_zero, List.set_cons_succ]
            refine wpAnyH_take (i := 12) (oi := _) (v := ?_) (by simp only [List.getElem?_toArray, List.getElem?_cons_zero, List.getElem?_cons_succ]; rfl) (by kernel_rfl) (by kernel_rfl) (by kernel_rfl) (fun _ _ _ h => h) (Or.inl ⟨by rfl, ?_⟩) (by assumption) ?_
            rotate_left
            · intro w hSw
              try dsimp only at hSw
              go_simp
              all_goals (with_reducible rfl)
            try simp only [Act.put, List.setIfInBounds_toArray, List.set_cons_zero, List.set_cons_succ]
            refine wpAnyH_ready (rs := [13]) (by kernel_rfl) (by simp) ?_
            refine AllReadyH.cons (o := _) (by simp only [List.getElem?_toArray, List.getElem?_cons_zero, List.getElem?_cons_succ]; rfl) (fun K hK => ?_) ?_
            · skip
              go_simp
              refine hK.out _ _ ?_ (fun hHeld => ?_)
              · try dsimp only
                first | assumption | exact HSX.out _ ((Fr.refl _ _).drew) | exact HSX.out _ (Fr.trans' (And.right (And.right (And.right (And.right (And.right (And.right ‹_ ∧ _ ∧ _ ∧ _ ∧ _ ∧ _ ∧ Fr (fun _ => False) _ _›)))))) ‹Fr (fun _ => False) _ _›) | exact HSX.out _ (Fr.alloc (And.right (And.right (And.right (And.right (And.right (And.right ‹_ ∧ _ ∧ _ ∧ _ ∧ _ ∧ _ ∧ Fr (fun _ => False) _ _›)))))) _)
              clear hK K
              try simp only [Act.put, List.setIfInBounds_toArray, List.set_cons_zero, List.set_cons_succ]
              refine wpAnyH_ready (rs := [14]) (by kernel_rfl) (by simp) ?_
              refine AllReadyH.cons (o := _) (by simp only [List.getElem?_toArray, List.getElem?_cons_zero, List.getElem?_cons_succ]; rfl) (fun K hK => ?_) ?_
              · skip
                go_simp
                go_at_call 21
                refine (HPJ.out _ _ _ _ (And.right (And.right (And.right (And.right (And.right (And.right ‹_ ∧ _ ∧ _ ∧ _ ∧ _ ∧ _ ∧ Fr (fun _ => False) _ _›)))))) (row_lit2 _)).mono ?_
                rintro e wE ⟨tvE, rfl, hTE, hfG⟩
                refine hK.out _ _ ?_ (fun hHeld => ?_)
                · try dsimp only
                  first | assumption | exact HSX.out _ ((Fr.refl _ _).drew) | exact HSX.out _ (Fr.trans' (And.right (And.right (And.right (And.right (And.right (And.right ‹_ ∧ _ ∧ _ ∧ _ ∧ _ ∧ _ ∧ Fr (fun _ => False) _ _›)))))) ‹Fr (fun _ => False) _ _›) | exact HSX.out _ (Fr.alloc (And.right (And.right (And.right (And.right (And.right (And.right ‹_ ∧ _ ∧ _ ∧ _ ∧ _ ∧ _ ∧ Fr (fun _ => False) _ _›)))))) _)
                clear hK K
                try simp only [Act.put, List.setIfInBounds_toArray, List.set_cons_zero, List.set_cons_succ]
                refine wpAnyH_ready (rs := [15]) (by kernel_rfl) (by simp) ?_
                refine AllReadyH.cons (o := _) (by simp only [List.getElem?_toArray, List.getElem?_cons_zero, List.getElem?_cons_succ]; rfl) (fun K hK => ?_) ?_
                · skip
                  go_simp
                  go_at_call 19
                  refine (HSA.out _ tvE _ (And.right (And.right (And.right (And.right (And.right (And.right ‹_ ∧ _ ∧ _ ∧ _ ∧ _ ∧ _ ∧ Fr (fun _ => False) _ _›)))))) hTE).mono ?_
                  rintro e wF ⟨rfl, hfG⟩
                  refine hK.out _ _ ?_ (fun hHeld => ?_)
                  · try dsimp only
                    first | assumption | exact HSX.out _ ((Fr.refl _ _).drew) | exact HSX.out _ (Fr.trans' (And.right (And.right (And.right (And.right (And.right (And.right ‹_ ∧ _ ∧ _ ∧ _ ∧ _ ∧ _ ∧ Fr (fun _ => False) _ _›)))))) ‹Fr (fun _ => False) _ _›) | exact HSX.out _ (Fr.alloc (And.right (And.right (And.right (And.right (And.right (And.right ‹_ ∧ _ ∧ _ ∧ _ ∧ _ ∧ _ ∧ Fr (fun _ => False) _ _›)))))) _)
                  clear hK K
                  try simp only [Act.put, List.setIfInBounds_toArray, List.set_cons_zero, List.set_cons_succ]
                  refine wpAnyH_take (i := 16) (oi := _) (v := ?_) (by simp only [List.getElem?_toArray, List.getElem?_cons_zero, List.getElem?_cons_succ]; rfl) (by kernel_rfl) (by kernel_rfl) (by kernel_rfl) (fun _ _ _ h => h) (Or.inl ⟨by rfl, ?_⟩) (by assumption) ?_
                  rotate_left
                  · intro w hSw
                    try dsimp only at hSw
                    go_simp
                    all_goals (with_reducible rfl)
                  try simp only [Act.put, List.setIfInBounds_toArray, List.set_cons_zero, List.set_cons_succ]
                  refine wpAnyH_take (i := 17) (oi := _) (v := ?_) (by simp only [List.getElem?_toArray, List.getElem?_cons_zero, List.getElem?_cons_succ]; rfl) (by kernel_rfl) (by kernel_rfl) (by kernel_rfl) (fun _ _ _ h => h) (Or.inl ⟨by rfl, ?_⟩) (by assumption) ?_
                  rotate_left
                  · intro w hSw
                    try dsimp only at hSw
                    go_simp
                    all_goals (with_reducible rfl)
                  try simp only [Act.put, List.setIfInBounds_toArray, List.set_cons_zero, List.set_cons_succ]
                  refine wpAnyH_done (by kernel_rfl) ?_ _
                  refine NoPanic.normal ?_
                  have hFZ : Fr (fun _ => False) w wF := HFA.out.trans' (And.right (And.right (And.right (And.right (And.right (And.right ‹_ ∧ _ ∧ _ ∧ _ ∧ _ ∧ _ ∧ Fr (fun _ => False) _ _›))))))
                  clear hHeld
                  go_wp2_with fail
                  go_ret
                  exact ⟨rfl, hFZ⟩
                exact AllReadyH.nil
              exact AllReadyH.nil
            exact AllReadyH.nil
          exact AllReadyH.nil
        exact AllReadyH.nil
      exact AllReadyH.nil
    exact AllReadyH.nil

end Go.Proofs.YtebddgdkndmpjaaGreatDoor
