/- What is made of the input: walked. -/
import Derived.Test.YtebddgdkndmpjaaGreatDoorGy
import Derived.Deep.CutBlock
import Derived.Deep.RegionLawGrows
import Derived.Deep.Cut
import Derived.Deep.CutRange
import Derived.WalkKit
import Derived.WalkLawsBesides
import Derived.WalkSpells
import Derived.Deep.QuietTactic
import Derived.BigRegion
import Derived.BigQuiet
import Derived.Lib.Hide
import Derived.Outline
import Derived.Deep.AppendLies
import Derived.Deep.RegionLaw
import Derived.Deep.RegionWith
import Derived.Deep.RegionHeld3
import Derived.Deep.LoopGhost
import Derived.Deep.DeepFit
import Derived.Laws.ResultCell
import Derived.Laws.RangeAny
import Derived.Deep.MidRow
import Derived.StillTailTactics
import Derived.OpenShut
namespace Go.Proofs.YtebddgdkndmpjaaGreatDoor
set_option linter.unusedVariables false
open Go.RowKit Go

/-- The state of the outer loop. -/
structure BOut (w : World) (b r : Nat) (zs : List D3) (i : Nat) (v8 v9 : Value) (wr : World) : Prop where
  inv : ∃ vt vals8 vals9, BInv w wr b r vt v8 v9 vals8 vals9 (bTo zs i).ts (bTo zs i).rows (bTo zs i).refs
  ok : ∀ j, j < i → ∀ k, k < 3 → dOk ((zs.getD j default).at k) = true
theorem IsIn.cells {w wr : World} {a : Option Addr} {len cap : Nat} {zs : List D3} (h : IsIn w a len cap zs) (hf : Fr (fun _ => False) w wr) {i : Nat} (hi : i < len) :
    ∃ g o, a = some ⟨g, o, none⟩ ∧ wr.cell? ⟨g, o + i * 12, none⟩ = some (.int .i64 (zs.getD i default).a.kind) ∧ wr.cell? ⟨g, o + i * 12 + 1, none⟩ = some (.string (zs.getD i default).a.text) ∧ wr.cell? ⟨g, o + i * 12 + 2, none⟩ = some (.string (zs.getD i default).a.type) ∧ wr.cell? ⟨g, o + i * 12 + 3, none⟩ = some (.string (zs.getD i default).a.lang) ∧
      wr.cell? ⟨g, o + i * 12 + 4, none⟩ = some (.int .i64 (zs.getD i default).b.kind) ∧ wr.cell? ⟨g, o + i * 12 + 5, none⟩ = some (.string (zs.getD i default).b.text) ∧ wr.cell? ⟨g, o + i * 12 + 6, none⟩ = some (.string (zs.getD i default).b.type) ∧ wr.cell? ⟨g, o + i * 12 + 7, none⟩ = some (.string (zs.getD i default).b.lang) ∧
      wr.cell? ⟨g, o + i * 12 + 8, none⟩ = some (.int .i64 (zs.getD i default).c.kind) ∧ wr.cell? ⟨g, o + i * 12 + 9, none⟩ = some (.string (zs.getD i default).c.text) ∧ wr.cell? ⟨g, o + i * 12 + 10, none⟩ = some (.string (zs.getD i default).c.type) ∧ wr.cell? ⟨g, o + i * 12 + 11, none⟩ = some (.string (zs.getD i default).c.lang) := by
  obtain ⟨g, o, he, _, _, hc⟩ := h.at_ hi
  refine ⟨g, o, he, ?_⟩
  have H : ∀ j, (hj : j < 12) → wr.cell? ⟨g, o + i * 12 + j, none⟩ = (zs.getD i default).list[j]? := fun j hj => by
    have h2 := hc j hj
    rw [← h2]
    obtain ⟨v, hv⟩ : ∃ v, (zs.getD i default).list[j]? = some v := by
      rw [List.getElem?_eq_getElem (by simp [D3.list, DT.list]; omega)]
      exact ⟨_, rfl⟩
    rw [hv] at h2
    rw [h2]
    exact cell_fr hf h2
  exact ⟨H 0 (by omega), H 1 (by omega), H 2 (by omega), H 3 (by omega), H 4 (by omega), H 5 (by omega), H 6 (by omega), H 7 (by omega), H 8 (by omega), H 9 (by omega), H 10 (by omega), H 11 (by omega)⟩

theorem idx64 (d : D3) (k : Nat) (hk : k < 3) (w : World) : (Instr.index 124 (.agg #[.int .i64 d.a.kind, .string d.a.text, .string d.a.type, .string d.a.lang, .int .i64 d.b.kind, .string d.b.text, .string d.b.type, .string d.b.lang, .int .i64 d.c.kind, .string d.c.text, .string d.c.type, .string d.c.lang]) (.int .i64 (k : Int))).run Tryz.prog w = .ok (.agg #[.int .i64 (d.at k).kind, .string (d.at k).text, .string (d.at k).type, .string (d.at k).lang]) w := by
  rcases k with _ | _ | _ | k
  · kernel_rfl
  · kernel_rfl
  · kernel_rfl
  · omega

theorem BIn.next {w wr wv w6 : World} {H b r : Nat} {vt' v8 v9 v12 v13 v13' v6 : Value} {vals8 vals9 : List Value} {ts : List Tm} {rows : List (List Int)} {refs : List (List BD)} {d : D3} {k : Nat} {x : Int}
    (h : BIn w H b r v8 v9 vals8 vals9 ts rows refs d k v12 v13 wr) (hinv : BInv w wv b r vt' v8 v9 vals8 vals9 (bRowTo ts d (k + 1)).ts rows refs) (hrow : IntRow wv H v12 (bRowTo ts d k).xs)
    (hxs : (bRowTo ts d (k + 1)).xs = (bRowTo ts d k).xs ++ [x]) (href : ∃ g c, v13' = .slice (some ⟨g, 0, none⟩) (bRowTo ts d (k + 1)).bs.length c ∧ BRow wv w.heap.size v13' (bRowTo ts d (k + 1)).bs)
    (hok : dOk (d.at k) = true) (hle : H ≤ wv.heap.size) (o : Obj) (hown : w6.ownsRow H 3 1 v6 ((bRowTo ts d k).xs.length + 1) ((bRowTo ts d k).xs.map (.int .i64) ++ [.int .i64 x]))
    (hg : (wv.alloc o).grownBy w6 v12.ownBlock) : BIn w H b r v8 v9 vals8 vals9 ts rows refs d (k + 1) v6 v13' w6 := by
  have hf : Fr (fun j => v12.ownBlock = some j) wv w6 := ((Fr.refl _ wv).alloc o).trans (Fr.of_grown hg) (fun _ _ h => h)
  obtain ⟨g, c, he, hb⟩ := href
  refine ⟨⟨vt', hinv.append3 hrow h.base h.lt hf⟩, ?_, ⟨g, c, he, BInv.append3B hrow hb hf⟩, fun j hj => ?_, Nat.le_trans hle hf.size, h.lt, h.base⟩
  · rw [hxs]
    unfold IntRow
    rw [List.length_append, List.map_append]
    exact hown
  · by_cases e : j = k
    · subst e
      exact hok
    · exact h.ok j (by omega)
theorem conv_name (w : World) (k : Nat) (hk : k < 3) : (convert 86 9 (.slice (some ⟨w.heap.size, 0, none⟩) 1 1)).run Tryz.prog (w.alloc (.cells #[.int .u8 (97 + (k : Int))] 5)) = .ok (.string (vName k)) (w.alloc (.cells #[.int .u8 (97 + (k : Int))] 5)) := by
  refine run_convert_bytes_back (P := Tryz.prog) (w.alloc (.cells #[.int .u8 (97 + (k : Int))] 5)) 86 9 5 ⟨w.heap.size, 0, none⟩ 1 [UInt8.ofNat (97 + k)] Tryz.underlying86 Tryz.underlying5 Tryz.underlying9 (fun j hj => ?_)
  have hj0 : j = 0 := by simpa using hj
  subst hj0
  have h := (Blk.new w 5 #[.int .u8 (97 + (k : Int))]).cell 0
  rw [add_cell, h]
  have e : ((UInt8.ofNat (97 + k)).toNat : Int) = 97 + (k : Int) := by
    rw [UInt8.toNat_ofNat', Nat.mod_eq_of_lt (by omega)]
    omega
  simp only [List.getElem_cons_zero, e]
  rfl
theorem abc1 : ∀ j, j + 1 < 3 → Op.bytesLess (([⟨#[97]⟩, ⟨#[98]⟩, ⟨#[99]⟩] : List ByteArray).getD (j + 1) ByteArray.empty).toList (([⟨#[97]⟩, ⟨#[98]⟩, ⟨#[99]⟩] : List ByteArray).getD j ByteArray.empty).toList = false := by
  intro j hj
  rcases j with _ | _ | j
  · decide +kernel
  · decide +kernel
  · omega
theorem abc2 : ∀ j, j + 1 < 3 → ((([⟨#[97]⟩, ⟨#[98]⟩, ⟨#[99]⟩] : List ByteArray).getD (j + 1) ByteArray.empty).toList == (([⟨#[97]⟩, ⟨#[98]⟩, ⟨#[99]⟩] : List ByteArray).getD j ByteArray.empty).toList) = false := by
  intro j hj
  rcases j with _ | _ | j
  · decide +kernel
  · decide +kernel
  · omega
theorem abc3 : ∀ k, k < 3 → ∀ j, j < k → ([⟨#[97]⟩, ⟨#[98]⟩, ⟨#[99]⟩] : List ByteArray).getD j ByteArray.empty ≠ ([⟨#[97]⟩, ⟨#[98]⟩, ⟨#[99]⟩] : List ByteArray).getD k ByteArray.empty := by decide +kernel
theorem IsTable.base {w : World} {B B' : Nat} {tv : Value} {ss : List ByteArray} {rows : List (List Int)} {m : Nat} (h : IsTable w B m tv ss rows) (hB : B' ≤ B) : IsTable w B' m tv ss rows := by
  obtain ⟨vg, vc, vr, vals, rfl, h1, h2⟩ := h
  exact ⟨vg, vc, vr, vals, rfl, ownsRow_base h1 hB, h2.base hB⟩
theorem BInv.rowsOk {w wr : World} {b r : Nat} {vt v8 v9 : Value} {vals8 vals9 : List Value} {zs : List D3} {i : Nat} (h : BInv w wr b r vt v8 v9 vals8 vals9 (bTo zs i).ts (bTo zs i).rows (bTo zs i).refs) (g c : Nat) (wy : World)
    (hi : i ≤ 8) (hs : wy.ownsRow w.heap.size 9 1 (.slice (some ⟨g, 0, none⟩) 3 c) 3 (([⟨#[97]⟩, ⟨#[98]⟩, ⟨#[99]⟩] : List ByteArray).map .string)) (hr : RowsAt wy w.heap.size v8 vals8 (bTo zs i).rows) :
    Calls Tryz.prog 26 #[.slice (some ⟨g, 0, none⟩) 3 c, v8] wy (OfPost wy 3 [⟨#[97]⟩, ⟨#[98]⟩, ⟨#[99]⟩] (bTo zs i).rows) := by
  obtain ⟨h1, _, _, h4⟩ := bTo_len zs i
  have hg : ∀ j, j < (bTo zs i).rows.length → (bTo zs i).rows.getD j [] ∈ (bTo zs i).rows := fun j hj => by
    rw [List.getD_eq_getElem?_getD, List.getElem?_eq_getElem hj]
    exact List.getElem_mem hj
  refine of_any 3 c w.heap.size (some ⟨g, 0, none⟩) v8 vals8 [⟨#[97]⟩, ⟨#[98]⟩, ⟨#[99]⟩] (bTo zs i).rows wy (by decide) (fun h => absurd h (by decide)) rfl abc1 abc2 abc3 (fun j hj => (h4 _ (hg j hj)).1) (fun j hj k hk => ?_) (by omega) hs hr
  obtain ⟨h5, h6⟩ := h4 _ (hg j hj)
  refine h6 _ ?_
  generalize (bTo zs i).rows.getD j [] = row at *
  rw [List.getD_eq_getElem?_getD, List.getElem?_eq_getElem (by omega)]
  exact List.getElem_mem _
theorem IsDict.frR {w w' : World} {B b r R : Nat} {vt : Value} {ts : List Tm} {room : Int} {cs : Array Value} (h : IsDict w B b r vt ts room) (hR : Blk w R 63 cs) (hf : Fr (fun j => j = R) w w') : IsDict w' B b r vt ts room :=
  h.fr hf (fun e => Blk.ne_ h.blk hR (by decide) e) (fun e => h.map.ne_blk hR e.symm) (fun k hk e => own_blk_ne h.row hR (by decide) (by rw [hk, e]))
theorem plainT_kind (x : DT) : 0 ≤ (plainT x).kind ∧ (plainT x).kind ≤ 2 := by
  unfold plainT
  split
  · exact ⟨(by decide : (0 : Int) ≤ 2), (by decide : (2 : Int) ≤ 2)⟩
  · exact kindOf_le _
set_option maxRecDepth 100000 in
set_option maxHeartbeats 4000000 in
theorem build_any (a : Option Addr) (len cap : Nat) (zs : List D3) (w : World) (hin : IsIn w a len cap zs) (hlen : len ≤ maxLen) :
    Calls Tryz.prog 16 #[.slice a len cap] w (BuildPost w zs) := by
  unfold maxLen at hlen
  have HIN := Lib.hid hin
  have HD := Lib.hid (fun w => dnew_any 1000 w (by omega) (by omega))
  have HL := Lib.hid hin.len_
  obtain ⟨i3, hi3, hz30, hz31, hz32⟩ := info_parts info3
  obtain ⟨i48, hi48, hz480, hz481, hz482⟩ := info_parts info48
  obtain ⟨i66, hi66, hz660, hz661, hz662⟩ := info_parts info66
  clear hin
  go_enter Tryz.func16, Tryz.ntmps16
  go_wp2_with fail
  refine (HD.out _).mono ?_
  rintro e w1 ⟨rfl, hd1, hf1⟩
  have hz : (w.alloc (.cells #[.slice none 0 0, .slice none 0 0] 63)).heap.size = w.heap.size + 1 := by simp
  have hb0 := (Blk.new w 63 #[.slice none 0 0, .slice none 0 0]).fr hf1 (fun h => h)
  have hd2 := hd1.base (show w.heap.size ≤ _ by rw [hz]; omega)
  have START := Lib.hid (show BInv w w1 _ _ (.slice none 0 0) (.slice none 0 0) (.slice none 0 0) [] [] (bTo zs 0).ts (bTo zs 0).rows (bTo zs 0).refs from ⟨hb0, hd2, ⟨World.ownsRow_nil _ _ _ _, fun i hi => absurd hi (by simp [bTo])⟩, ⟨World.ownsRow_nil _ _ _ _, fun i hi => absurd hi (by simp [bTo])⟩, ((Fr.refl _ w).alloc _).trans' hf1⟩)
  rw [hz] at START
  clear hd1 hf1 hb0 hd2 hz
  have START2 : ∃ r, Hid (BOut w (w.heap.size + 1 + 1) r zs 0 (.slice none 0 0) (.slice none 0 0) w1) := ⟨_, Lib.hid ⟨⟨_, _, _, START.out⟩, fun j hj => absurd hj (Nat.not_lt_zero _)⟩⟩
  clear START
  obtain ⟨r, START⟩ := START2
  go_wp2_with fail
  generalize w.heap.size + 1 + 1 = b at *
  go_loopw [8, 9, 24] (fun v8 v9 iv wr => ∃ i : Nat, iv = .int .i64 (i : Int) ∧ i ≤ len ∧ i ≤ 8 ∧ BOut w b r zs i v8 v9 wr) (fun _ _ iv _ => len - (intOf iv).toNat)
  case atStart => exact ⟨0, rfl, Nat.zero_le _, by omega, START.out⟩
  case round =>
    obtain ⟨i, rfl, hi, hi8, ho⟩ := hrel
    have HO := Lib.hid ho
    clear ho
    by_cases hlt : i < len
    · have hlt' : (i : Int) < (len : Int) := by omega
      by_cases h8 : i = 8
      · subst h8
        obtain ⟨g, o, rfl, c0, c1, c2, c3, c4, c5, c6, c7, c8', c9', c10, c11⟩ := HIN.out.cells HO.out.inv.choose_spec.choose_spec.choose_spec.fr hlt
        generalize zs.getD 8 default = d at *
        obtain ⟨⟨ak, at_, ay, al⟩, ⟨bk, bt, by_, bl⟩, ⟨ck, ct, cy, cl⟩⟩ := d
        dsimp only at c0 c1 c2 c3 c4 c5 c6 c7 c8' c9' c10 c11
        obtain ⟨vt, vals8, vals9, hinv⟩ := HO.out.inv
        have hF0 : Fr (fun _ => False) wr (wr.alloc (.cells #[.int .i64 ak, .string at_, .string ay, .string al, .int .i64 bk, .string bt, .string by_, .string bl, .int .i64 ck, .string ct, .string cy, .string cl] 124)) := (Fr.refl _ _).alloc _
        have HIW := Lib.hid (hinv.frF hF0)
        have hwz := HIW.out.fr.size
        have HOF := Lib.hid (fun g c wy hs hr => HIW.out.rowsOk g c wy hi8 hs hr)
        have hlit := World.ownsRow_lit (base := w.heap.size) (size := 1) (e := 9) (wr.alloc (.cells #[.int .i64 ak, .string at_, .string ay, .string al, .int .i64 bk, .string bt, .string by_, .string bl, .int .i64 ck, .string ct, .string cy, .string cl] 124)) #[.string ⟨#[97]⟩, .string ⟨#[98]⟩, .string ⟨#[99]⟩] 3 hwz (by decide) rfl
        rw [show (wr.alloc (.cells #[.int .i64 ak, .string at_, .string ay, .string al, .int .i64 bk, .string bt, .string by_, .string bl, .int .i64 ck, .string ct, .string cy, .string cl] 124)).heap.size = wr.heap.size + 1 by simp] at hlit; have HLIT := Lib.hid hlit
        have hrw := hinv.rows.own
        have hfw := hinv.refs.own
        obtain ⟨A8, c8, hv8⟩ := row_shape hrw
        obtain ⟨A9, c9, hv9⟩ := row_shape hfw
        subst hv8
        subst hv9
        clear hinv hlit hrw hfw
        go_wp2_with fail
        refine (HOF.out _ _ _ HLIT.out (HIW.out.rows.frF ((Fr.refl _ _).alloc _))).mono ?_
        rintro e w3 ⟨tv, rfl, ht, hf3⟩
        have FY : Fr (fun _ => False) (wr.alloc (.cells #[.int .i64 ak, .string at_, .string ay, .string al, .int .i64 bk, .string bt, .string by_, .string bl, .int .i64 ck, .string ct, .string cy, .string cl] 124)) w3 := ((Fr.refl _ _).alloc _).trans' hf3
        have hz3 := hf3.size
        have hzz : w.heap.size ≤ w3.heap.size := Nat.le_trans hwz FY.size
        have ht2 := ht.base (show w.heap.size ≤ _ from Nat.le_trans hwz (by simp))
        have hi3' := HIW.out.frF FY
        obtain ⟨vg, vc, vr, vals, rfl, hvrow, hrowsAt⟩ := ht2
        obtain ⟨Ar, cr, hvr⟩ := row_shape hrowsAt.own
        subst hvr
        have HI3 := Lib.hid hi3'
        have HVR := Lib.hid hvrow
        have HRA := Lib.hid hrowsAt
        have r0 : w3.cell? ⟨w.heap.size, 0, none⟩ = some (.slice none 0 0) := hi3'.res.cell 0
        have r1 : w3.cell? ⟨w.heap.size, 1, none⟩ = some (.slice none 0 0) := hi3'.res.cell 1
        have q0 := hi3'.res.frozen 0
        have q1 := hi3'.res.frozen 1
        have hrl := hi3'.res.lt
        clear hi3' hvrow hrowsAt ht hf3 FY hF0
        go_wp2_with fail
        generalize hnr : (bTo zs 8).rows.length = nr at *
        have HBF := Lib.hid (show Blk ((w3.setCell ⟨w.heap.size, 0, none⟩ (.slice vg 3 vc)).setCell ⟨w.heap.size, 1, none⟩ (.slice Ar nr cr)) w.heap.size 63 #[.slice vg 3 vc, .slice Ar nr cr] from (HI3.out.res.set_ 0 (.slice vg 3 vc)).set_ 1 (.slice Ar nr cr))
        have FS : Fr (fun j => j = w.heap.size) w3 ((w3.setCell ⟨w.heap.size, 0, none⟩ (.slice vg 3 vc)).setCell ⟨w.heap.size, 1, none⟩ (.slice Ar nr cr)) := ((Fr.refl (fun j => j = w.heap.size) w3).setCell ⟨w.heap.size, 0, none⟩ (fun _ => rfl) _).setCell ⟨w.heap.size, 1, none⟩ (fun _ => rfl) _
        exact bodyPost_ret (v := .tuple #[.pointer (some ⟨b, 0, none⟩), .agg #[.slice vg 3 vc, .slice Ar nr cr], .slice A9 (bTo zs 8).refs.length c9, .bool true]) (results_4 rfl _ _ w.heap.size 63 _ (0, 0) _ rfl HBF.out Tryz.underlying63 rfl (by kernel_rfl) _ _ _ rfl rfl rfl) rfl
          (.inr ⟨8, b, r, vt, _, _, vals9, hi8, by rw [HL.out]; exact hi, rfl, HI3.out.dict.frR HI3.out.res FS, ⟨vg, vc, _, vals, rfl, ownsRow_fr HVR.out FS (fun j hj e => own_blk_ne HVR.out HI3.out.res (by decide) (by rw [hj, e])), HRA.out.frB HI3.out.res (by decide) (by decide) FS⟩, HI3.out.refs.frB HI3.out.res (by decide) (by decide) FS, (HI3.out.fr.trans FS (fun j hj e => absurd e (by omega))), HO.out.ok⟩)
      · have h8' : ((i : Int) == 8) = false := by simp; omega
        obtain ⟨vt, vals8, vals9, hinv⟩ := HO.out.inv
        obtain ⟨g, o, rfl, c0, c1, c2, c3, c4, c5, c6, c7, c8, c9, c10, c11⟩ := HIN.out.cells hinv.fr hlt
        have HINV := Lib.hid hinv
        generalize hdd : zs.getD i default = d at *
        have HDD := Lib.hid hdd
        clear hinv hdd
        obtain ⟨⟨ak, at_, ay, al⟩, ⟨bk, bt, by_, bl⟩, ⟨ck, ct, cy, cl⟩⟩ := d
        have HIX := Lib.hid (idx64 ⟨⟨ak, at_, ay, al⟩, ⟨bk, bt, by_, bl⟩, ⟨ck, ct, cy, cl⟩⟩)
        dsimp only at c0 c1 c2 c3 c4 c5 c6 c7 c8 c9 c10 c11 HIX
        go_wp2_with fail
        clear c0 c1 c2 c3 c4 c5 c6 c7 c8 c9 c10 c11
        generalize hDD : (⟨⟨ak, at_, ay, al⟩, ⟨bk, bt, by_, bl⟩, ⟨ck, ct, cy, cl⟩⟩ : D3) = d at *
        have hF2 : Fr (fun _ => False) wr ((wr.alloc (.cells #[.int .i64 ak, .string at_, .string ay, .string al, .int .i64 bk, .string bt, .string by_, .string bl, .int .i64 ck, .string ct, .string cy, .string cl] 124)).alloc (.cells #[] 202)) := ((Fr.refl _ _).alloc _).alloc _
        have hR2 : BRow ((wr.alloc (.cells #[.int .i64 ak, .string at_, .string ay, .string al, .int .i64 bk, .string bt, .string by_, .string bl, .int .i64 ck, .string ct, .string cy, .string cl] 124)).alloc (.cells #[] 202)) wr.heap.size (.slice (some ⟨wr.heap.size + 1, 0, none⟩) 0 0) [] := lit_at wr _
        generalize (Value.agg #[.int .i64 ak, .string at_, .string ay, .string al, .int .i64 bk, .string bt, .string by_, .string bl, .int .i64 ck, .string ct, .string cy, .string cl]) = AR at *
        generalize ((wr.alloc (.cells #[.int .i64 ak, .string at_, .string ay, .string al, .int .i64 bk, .string bt, .string by_, .string bl, .int .i64 ck, .string ct, .string cy, .string cl] 124)).alloc (.cells #[] 202)) = w2 at *
        have hbase := HINV.out.fr.size
        have BST := Lib.hid (show BIn w wr.heap.size b r u8 u9 vals8 vals9 (bTo zs i).ts (bTo zs i).rows (bTo zs i).refs d 0 (.slice none 0 0) (.slice (some ⟨wr.heap.size + 1, 0, none⟩) 0 0) w2 from
          ⟨⟨vt, HINV.out.frF hF2⟩, World.ownsRow_nil _ _ _ _, ⟨_, _, rfl, ownsRow_base hR2 hbase⟩, fun j hj => absurd hj (Nat.not_lt_zero _), hF2.size, fun i hi k hk => ((HINV.out.rows.each i hi).lt k hk).2, hbase⟩)
        have HDD2 := Lib.hid (show zs.getD i default = d from HDD.out)
        clear HDD hDD hF2 hR2
        obtain ⟨wo, rfl⟩ : ∃ wo : World, wo = wr := ⟨wr, rfl⟩
        go_loopw [12, 13, 33] (fun v12 v13 kv wx => ∃ k : Nat, kv = .int .i64 (k : Int) ∧ k ≤ 3 ∧ BIn w wo.heap.size b r u8 u9 vals8 vals9 (bTo zs i).ts (bTo zs i).rows (bTo zs i).refs d k v12 v13 wx) (fun _ _ kv _ => 3 - (intOf kv).toNat)
        case atStart => exact ⟨0, rfl, by omega, BST.out⟩
        case round =>
          obtain ⟨k, rfl, hk, hb⟩ := hrel
          have HB := Lib.hid hb
          clear hb
          by_cases hk3 : k < 3
          · have hk3' : (k : Int) < 3 := by omega
            have hix := HIX.out k hk3
            have hoks := HB.out.ok
            rcases hx : d.at k with ⟨xk, xt, xy, xl⟩
            rw [hx] at hix
            have HX := Lib.hid hx
            clear hx
            dsimp only at hix
            by_cases h1 : xt.size ≤ 200
            · have h1' : ¬ (200 : Int) < (xt.size : Int) := by omega
              by_cases h2 : xy.size ≤ 200
              · have h2' : ¬ (200 : Int) < (xy.size : Int) := by omega
                by_cases h3 : xl.size ≤ 50
                · have h3' : ¬ (50 : Int) < (xl.size : Int) := by omega
                  obtain ⟨⟨vtx, hinvx⟩, hrow, ⟨g13, c13, he13, href⟩, _, hleH, _, _⟩ := HB.out
                  have hok : dOk (d.at k) = true := by rw [HX.out]; simp [dOk, h1, h2, h3]
                  have hxl := bRowTo_xs (bTo zs i).ts d k
                  have hbl := (bRowTo_bs (bTo zs i).ts d k).1
                  have hless := bRowTo_less (bTo zs i).ts d k hk3
                  have htl := bRowTo_ts (bTo zs i).ts d k
                  have htl2 := (bTo_len zs i).2.2.1
                  have hsp : bRowTo (bTo zs i).ts d (k + 1) = bElem (bRowTo (bTo zs i).ts d k) k (d.at k) := rfl
                  rw [HX.out] at hsp
                  generalize hst : bRowTo (bTo zs i).ts d k = st at hinvx hrow he13 href hxl hbl hless htl hsp
                  have HST := Lib.hid hst
                  obtain ⟨sts, sxs, sbs⟩ := st
                  dsimp only at hinvx hrow he13 href hxl hbl hless htl
                  unfold bElem at hsp
                  dsimp only at hsp
                  generalize hnb : sbs.length = nb at he13 hbl
                  subst he13
                  unfold BRow at href
                  rw [hnb] at href
                  obtain ⟨A12, c12, hv12⟩ := row_shape hrow
                  rw [hxl] at hv12
                  subst hv12
                  unfold IntRow at hrow
                  rw [hxl] at hrow
                  have hsts : sts.length ≤ 100000 := by omega
                  have HSTS := Lib.hid hsts
                  have HNB := Lib.hid hnb
                  have HLESS := Lib.hid hless
                  have HSP := Lib.hid hsp
                  have HINVX := Lib.hid hinvx
                  have HROW := Lib.hid hrow
                  have HREF := Lib.hid href
                  have HXL := Lib.hid hxl
                  have HOK := Lib.hid hok
                  clear hsp hinvx hrow href hxl hok hoks hless hnb hst htl htl2 hsts
                  have hs1 : (plainT ⟨xk, xt, xy, xl⟩).text.size ≤ 200 ∧ (plainT ⟨xk, xt, xy, xl⟩).type.size ≤ 200 ∧ (plainT ⟨xk, xt, xy, xl⟩).lang.size ≤ 50 := by
                    unfold plainT
                    split
                    · exact ⟨h1, h2, h3⟩
                    · exact ⟨h1, Nat.zero_le 200, Nat.zero_le 50⟩
                  have hs2 := plainT_kind ⟨xk, xt, xy, xl⟩
                  have HPL := Lib.hid (fun w => plainT_any ⟨xk, xt, xy, xl⟩ w)
                  have HUSE := Lib.hid (show dUse ⟨xk, xt, xy, xl⟩ = ((kind4 xk != 3) && rGood (plainT ⟨xk, xt, xy, xl⟩)) from rfl)
                  have HS1 := Lib.hid hs1
                  unfold DT.cells at HPL
                  dsimp only at HPL
                  generalize plainT ⟨xk, xt, xy, xl⟩ = px at *
                  clear hs1
                  obtain ⟨pk, pt, py, pl⟩ := px
                  dsimp only at HPL HS1 hs2
                  go_wp2_with fail
                  refine (HPL.out _).mono ?_
                  rintro e w4 ⟨rfl, hf4⟩
                  have hf4w : Fr (fun _ => False) wr w4 := ((Fr.refl _ wr).alloc _).trans' hf4
                  have hbx := (Blk.new wr 52 #[.int .i64 xk, .string xt, .string xy, .string xl]).fr hf4 (fun h => h)
                  have HF4 := Lib.hid hf4w
                  have d0 : w4.cell? ⟨wr.heap.size, 0, none⟩ = some (.int .i64 xk) := hbx.cell 0
                  have hl4 := hbx.lt
                  clear hbx hf4 hf4w
                  have HRG := Lib.hid (fun w => rgood_any ⟨pk, pt, py, pl⟩ w hs2.1 hs2.2 (Nat.le_trans HS1.out.1 (by decide)) (Nat.le_trans HS1.out.2.1 (by decide)) (Nat.le_trans HS1.out.2.2 (by decide)))
                  unfold DT.cells at HRG
                  dsimp only at HRG
                  generalize hrg : rGood ⟨pk, pt, py, pl⟩ = rg at *
                  generalize hk4 : (kind4 xk != 3) = k4 at *
                  unfold kind4 at hk4
                  have HK4 := Lib.hid hk4
                  have HRGV := Lib.hid hrg
                  clear hrg
                  have hs4 := HF4.out.size
                  cases k4 with
                  | false =>
                    have HNX := Lib.hid (show bRowTo (bTo zs i).ts d (k + 1) = ⟨sts, sxs ++ [-1], sbs⟩ by rw [HSP.out, if_neg]; rw [HUSE.out]; simp)
                    have FY : Fr (fun _ => False) wr (w4.alloc (.cells #[.int .i64 pk, .string pt, .string py, .string pl] 52)) := HF4.out.alloc _
                    have HRY := Lib.hid (ownsRow_fr HROW.out FY (fun _ _ h => h))
                    have HRB := Lib.hid (ownsRow_fr HREF.out FY (fun _ _ h => h))
                    have HIY := Lib.hid (HINVX.out.frF FY)
                    have hnw := heap_alloc_new (w4.alloc (.cells #[.int .i64 pk, .string pt, .string py, .string pl] 52)) (.cells #[.int .i64 (-1)] 3)
                    rw [show (w4.alloc (.cells #[.int .i64 pk, .string pt, .string py, .string pl] 52)).heap.size = w4.heap.size + 1 by simp] at hnw
                    have HNW := Lib.hid hnw
                    clear FY hnw
                    go_wp2_with (at_builtin; refine wpList_append_own_at _ rfl _ _ 48 rfl wo.heap.size 3 i3 _ 1 8 Tryz.underlying48 hi3 hz30 hz31 hz32 rfl (by decide) _ k (sxs.map (.int .i64)) (by rfl) (HRY.out.alloc _) ⟨w4.heap.size + 1, 0, none⟩ 1 1 [.int .i64 (-1)] (by rfl) rfl (World.news_of_block HNW.out) (by intro u hu; rw [List.mem_singleton] at hu; rw [hu]; rfl) (by unfold maxLen; omega) (by omega) (by simp; omega) ?_; intro v6 w6 hown6 hgr6 _ hat6; obtain ⟨A6, c6, hv6⟩ := row_shape hown6; subst hv6)
                    have HG6 := Lib.hid hgr6
                    have HO6 := Lib.hid hown6
                    clear hown6 hgr6 hat6
                    go_wp2_with fail
                    go_roundw
                    case rel => exact ⟨k + 1, by go_num, by omega, HB.out.next (wv := w4.alloc (.cells #[.int .i64 pk, .string pt, .string py, .string pl] 52)) (vt' := vtx) (x := (-1)) (by rw [HNX.out]; exact HIY.out) (by rw [HST.out]; unfold IntRow; rw [HXL.out]; exact HRY.out) (by rw [HNX.out, HST.out]) (by rw [HNX.out]; exact ⟨g13, c13, by rw [HNB.out], by unfold BRow; rw [HNB.out]; exact HRB.out⟩) HOK.out (by first | omega | (simp; omega)) _ (by rw [HST.out]; dsimp only; rw [HXL.out]; exact HO6.out) HG6.out⟩
                    case measure => simp [intOf]; omega
                  | true =>
                    go_wp2_with fail
                    refine (HRG.out _).mono ?_
                    rintro e w5 ⟨rfl, hf5⟩
                    have FY5 : Fr (fun _ => False) wr w5 := (HF4.out.alloc _).trans' hf5
                    have hs5 := FY5.size
                    cases rg with
                    | false =>
                      have HNX := Lib.hid (show bRowTo (bTo zs i).ts d (k + 1) = ⟨sts, sxs ++ [-1], sbs⟩ by rw [HSP.out, if_neg]; rw [HUSE.out]; simp)
                      have HRY := Lib.hid (ownsRow_fr HROW.out FY5 (fun _ _ h => h))
                      have HRB := Lib.hid (ownsRow_fr HREF.out FY5 (fun _ _ h => h))
                      have HIY := Lib.hid (HINVX.out.frF FY5)
                      clear FY5 hf5
                      go_wp2_with (at_builtin; refine wpList_append_own_at _ rfl _ _ 48 rfl wo.heap.size 3 i3 _ 1 8 Tryz.underlying48 hi3 hz30 hz31 hz32 rfl (by decide) _ k (sxs.map (.int .i64)) (by rfl) (HRY.out.alloc _) ⟨(w5).heap.size, 0, none⟩ 1 1 [.int .i64 (-1)] (by rfl) rfl (World.news_of_block (heap_alloc_new (w5) _)) (by intro u hu; rw [List.mem_singleton] at hu; rw [hu]; rfl) (by unfold maxLen; omega) (by omega) (by simp; omega) ?_; intro v6 w6 hown6 hgr6 _ hat6; obtain ⟨A6, c6, hv6⟩ := row_shape hown6; subst hv6)
                      have HG6 := Lib.hid hgr6
                      have HO6 := Lib.hid hown6
                      clear hown6 hgr6 hat6
                      go_wp2_with fail
                      go_roundw
                      case rel => exact ⟨k + 1, by go_num, by omega, HB.out.next (wv := w5) (vt' := vtx) (x := (-1)) (by rw [HNX.out]; exact HIY.out) (by rw [HST.out]; unfold IntRow; rw [HXL.out]; exact HRY.out) (by rw [HNX.out, HST.out]) (by rw [HNX.out]; exact ⟨g13, c13, by rw [HNB.out], by unfold BRow; rw [HNB.out]; exact HRB.out⟩) HOK.out (by first | omega | (simp; omega)) _ (by rw [HST.out]; dsimp only; rw [HXL.out]; exact HO6.out) HG6.out⟩
                      case measure => simp [intOf]; omega
                    | true =>
                      have hb5 := (Blk.new w4 52 #[.int .i64 pk, .string pt, .string py, .string pl]).fr hf5 (fun h => h)
                      have HB5 := Lib.hid hb5
                      have e0 : w5.cell? ⟨w4.heap.size, 0, none⟩ = some (.int .i64 pk) := hb5.cell 0
                      have e1 : w5.cell? ⟨w4.heap.size, 1, none⟩ = some (.string pt) := hb5.cell 1
                      have e2 : w5.cell? ⟨w4.heap.size, 2, none⟩ = some (.string py) := hb5.cell 2
                      have e3 : w5.cell? ⟨w4.heap.size, 3, none⟩ = some (.string pl) := hb5.cell 3
                      have HRL := Lib.hid (fun w => realT_any ⟨pk, pt, py, pl⟩ w hs2.1 hs2.2)
                      unfold DT.cells at HRL
                      have htm : (toTm ⟨pk, pt, py, pl⟩).short := by
                        obtain ⟨a1, a2, a3⟩ := HS1.out
                        try dsimp only at a1 a2 a3
                        unfold toTm
                        try dsimp only
                        split
                        · exact (show pt.size ≤ 4096 by omega)
                        · split
                          · exact (show pt.size ≤ 4096 by omega)
                          · exact (show pt.size ≤ 4096 ∧ py.size ≤ 4096 ∧ pl.size ≤ 4096 from ⟨by omega, by omega, by omega⟩)
                      have hp23 := fun wy hB hr => put23_any g13 c13 w.heap.size sbs (vName k) ⟨pk, pt, py, pl⟩ wy hB (by rw [HNB.out]; omega) HLESS.out hr
                      rw [HNB.out] at hp23
                      unfold DT.cells at hp23
                      dsimp only at hp23
                      have HP23 := Lib.hid hp23
                      clear hp23
                      have HPUT := Lib.hid (fun wy hd hB => put_any wy w.heap.size b r vtx sts 1000 (toTm ⟨pk, pt, py, pl⟩) hd htm HSTS.out hB)
                      have HFY5 := Lib.hid FY5
                      have HNX := Lib.hid (show bRowTo (bTo zs i).ts d (k + 1) = ⟨putL sts (toTm ⟨pk, pt, py, pl⟩) 1000, sxs ++ [putN sts (toTm ⟨pk, pt, py, pl⟩) 1000], sbs ++ [⟨vName k, ⟨pk, pt, py, pl⟩⟩]⟩ by rw [HSP.out, if_pos]; rw [HUSE.out]; simp)
                      generalize toTm ⟨pk, pt, py, pl⟩ = tm at *
                      generalize putN sts tm 1000 = pn at *
                      generalize putE sts tm 1000 = pe at *
                      generalize putL sts tm 1000 = pl' at *
                      clear FY5 hf5 hb5 htm
                      go_wp2_with fail
                      refine (HRL.out _).mono ?_
                      rintro e w6 ⟨rfl, hf6⟩
                      have HF6 := Lib.hid (HFY5.out.trans' hf6)
                      have HB6 := Lib.hid (HB5.out.fr hf6 (fun h => h))
                      clear hf6 e0 e1 e2 e3
                      go_wp2_with fail
                      refine (HPUT.out _ (HINVX.out.frF HF6.out).dict (Nat.le_trans HINVX.out.fr.size HF6.out.size)).mono ?_
                      rintro e w7 ⟨vt7, rfl, hd7, hf7, -⟩
                      have hi6 := HINVX.out.frF HF6.out
                      have HI7 := Lib.hid (hi6.put hd7 hf7)
                      have HR7 := Lib.hid (show w7.ownsRow wo.heap.size 3 1 (.slice A12 k c12) k (sxs.map (.int .i64)) from ownsRow_fr (ownsRow_fr HROW.out HF6.out (fun _ _ h => h)) hf7 (hi6.dict.far (ownsRow_fr HROW.out HF6.out (fun _ _ h => h)) (by decide) (by decide)))
                      have HRB7 := Lib.hid (show w7.ownsRow w.heap.size 202 5 (.slice (some ⟨g13, 0, none⟩) nb c13) nb (bcells sbs) from ownsRow_fr (ownsRow_fr HREF.out HF6.out (fun _ _ h => h)) hf7 (hi6.dict.far (ownsRow_fr HREF.out HF6.out (fun _ _ h => h)) (by decide) (by decide)))
                      have hb7 := HB6.out.fr hf7 (hi6.dict.farB HB6.out (by decide) (by decide))
                      have f0 : w7.cell? ⟨w4.heap.size, 0, none⟩ = some (.int .i64 pk) := hb7.cell 0
                      have f1 : w7.cell? ⟨w4.heap.size, 1, none⟩ = some (.string pt) := hb7.cell 1
                      have f2 : w7.cell? ⟨w4.heap.size, 2, none⟩ = some (.string py) := hb7.cell 2
                      have f3 : w7.cell? ⟨w4.heap.size, 3, none⟩ = some (.string pl) := hb7.cell 3
                      have hl7 := hb7.lt
                      have hs7 := hf7.size
                      have hs6 := HF6.out.size
                      have hcv := conv_name w7 k hk3
                      have HF67 := Lib.hid hf7
                      clear hb7 hd7 hf7 hi6
                      go_wp2_with fail
                      refine (HP23.out _ (Nat.le_trans HI7.out.fr.size (by simp)) (HRB7.out.alloc _)).mono ?_
                      rintro e w9 ⟨A9, c9, rfl, hr9, hf9⟩
                      obtain ⟨g9, c9', hv9⟩ := row_pos hr9 (by omega)
                      have FY : Fr (fun _ => False) w7 w9 := ((Fr.refl _ w7).alloc _).trans' hf9
                      have hs9 := FY.size
                      have HRY := Lib.hid (ownsRow_fr HR7.out FY (fun _ _ h => h))
                      have HRB := Lib.hid (ownsRow_base hr9 (Nat.le_trans HI7.out.fr.size (by simp)))
                      have HIY := Lib.hid (HI7.out.frF FY)
                      injection hv9 with hv9 _ hv9c
                      subst hv9
                      subst hv9c
                      clear FY hf9 hr9 f0 f1 f2 f3 hcv
                      go_wp2_with (at_builtin; refine wpList_append_own_at _ rfl _ _ 48 rfl wo.heap.size 3 i3 _ 1 8 Tryz.underlying48 hi3 hz30 hz31 hz32 rfl (by decide) _ k (sxs.map (.int .i64)) (by rfl) (HRY.out.alloc _) ⟨(w9).heap.size, 0, none⟩ 1 1 [.int .i64 pn] (by rfl) rfl (World.news_of_block (heap_alloc_new (w9) _)) (by intro u hu; rw [List.mem_singleton] at hu; rw [hu]; rfl) (by unfold maxLen; omega) (by omega) (by simp; omega) ?_; intro v6 w10 hown6 hgr6 _ hat6; obtain ⟨A6, c6, hv6⟩ := row_shape hown6; subst hv6)
                      have HG6 := Lib.hid hgr6
                      have HO6 := Lib.hid hown6
                      clear hown6 hgr6 hat6
                      go_wp2_with fail
                      go_roundw
                      case rel => exact ⟨k + 1, by go_num, by omega, HB.out.next (wv := w9) (vt' := vt7) (x := pn) (by rw [HNX.out]; exact HIY.out) (by rw [HST.out]; unfold IntRow; rw [HXL.out]; exact HRY.out) (by rw [HNX.out, HST.out]) (by rw [HNX.out]; exact ⟨g9, _, by rw [List.length_append, HNB.out]; rfl, by unfold BRow; rw [List.length_append, HNB.out]; exact HRB.out⟩) HOK.out (by omega) _ (by rw [HST.out]; dsimp only; rw [HXL.out]; exact HO6.out) HG6.out⟩
                      case measure => simp [intOf]; omega
                · have h3' : (50 : Int) < (xl.size : Int) := by omega
                  have hinvx := HB.out.inv
                  obtain ⟨vtx, hinvx⟩ := hinvx
                  have HRES := Lib.hid hinvx.res
                  have HFRX := Lib.hid hinvx.fr
                  have r0 : wr.cell? ⟨w.heap.size, 0, none⟩ = some (.slice none 0 0) := hinvx.res.cell 0
                  have r1 : wr.cell? ⟨w.heap.size, 1, none⟩ = some (.slice none 0 0) := hinvx.res.cell 1
                  have q0 := hinvx.res.frozen 0
                  have q1 := hinvx.res.frozen 1
                  have hrl := hinvx.res.lt
                  clear hinvx
                  go_wp2_with fail
                  exact bodyPost_ret (v := .tuple #[.pointer none, .agg #[.slice none 0 0, .slice none 0 0], .slice none 0 0, .bool false]) (results_4 rfl _ _ w.heap.size 63 _ (0, 0) _ rfl (show Blk _ w.heap.size 63 #[.slice none 0 0, .slice none 0 0] from (((HRES.out.set_ 0 (.slice none 0 0)).set_ 1 (.slice none 0 0)).alloc _)) Tryz.underlying63 rfl (by kernel_rfl) _ _ _ rfl rfl rfl) rfl (.inl ⟨rfl, ((HFRX.out.setCell ⟨w.heap.size, 0, none⟩ (fun h => absurd h (Nat.lt_irrefl _)) _).setCell ⟨w.heap.size, 1, none⟩ (fun h => absurd h (Nat.lt_irrefl _)) _).alloc _⟩)
              · have h2' : (200 : Int) < (xy.size : Int) := by omega
                have hinvx := HB.out.inv
                obtain ⟨vtx, hinvx⟩ := hinvx
                have HRES := Lib.hid hinvx.res
                have HFRX := Lib.hid hinvx.fr
                have r0 : wr.cell? ⟨w.heap.size, 0, none⟩ = some (.slice none 0 0) := hinvx.res.cell 0
                have r1 : wr.cell? ⟨w.heap.size, 1, none⟩ = some (.slice none 0 0) := hinvx.res.cell 1
                have q0 := hinvx.res.frozen 0
                have q1 := hinvx.res.frozen 1
                have hrl := hinvx.res.lt
                clear hinvx
                go_wp2_with fail
                exact bodyPost_ret (v := .tuple #[.pointer none, .agg #[.slice none 0 0, .slice none 0 0], .slice none 0 0, .bool false]) (results_4 rfl _ _ w.heap.size 63 _ (0, 0) _ rfl (show Blk _ w.heap.size 63 #[.slice none 0 0, .slice none 0 0] from (((HRES.out.set_ 0 (.slice none 0 0)).set_ 1 (.slice none 0 0)).alloc _)) Tryz.underlying63 rfl (by kernel_rfl) _ _ _ rfl rfl rfl) rfl (.inl ⟨rfl, ((HFRX.out.setCell ⟨w.heap.size, 0, none⟩ (fun h => absurd h (Nat.lt_irrefl _)) _).setCell ⟨w.heap.size, 1, none⟩ (fun h => absurd h (Nat.lt_irrefl _)) _).alloc _⟩)
            · have h1' : (200 : Int) < (xt.size : Int) := by omega
              have hinvx := HB.out.inv
              obtain ⟨vtx, hinvx⟩ := hinvx
              have HRES := Lib.hid hinvx.res
              have HFRX := Lib.hid hinvx.fr
              have r0 : wr.cell? ⟨w.heap.size, 0, none⟩ = some (.slice none 0 0) := hinvx.res.cell 0
              have r1 : wr.cell? ⟨w.heap.size, 1, none⟩ = some (.slice none 0 0) := hinvx.res.cell 1
              have q0 := hinvx.res.frozen 0
              have q1 := hinvx.res.frozen 1
              have hrl := hinvx.res.lt
              clear hinvx
              go_wp2_with fail
              exact bodyPost_ret (v := .tuple #[.pointer none, .agg #[.slice none 0 0, .slice none 0 0], .slice none 0 0, .bool false]) (results_4 rfl _ _ w.heap.size 63 _ (0, 0) _ rfl (show Blk _ w.heap.size 63 #[.slice none 0 0, .slice none 0 0] from (((HRES.out.set_ 0 (.slice none 0 0)).set_ 1 (.slice none 0 0)).alloc _)) Tryz.underlying63 rfl (by kernel_rfl) _ _ _ rfl rfl rfl) rfl (.inl ⟨rfl, ((HFRX.out.setCell ⟨w.heap.size, 0, none⟩ (fun h => absurd h (Nat.lt_irrefl _)) _).setCell ⟨w.heap.size, 1, none⟩ (fun h => absurd h (Nat.lt_irrefl _)) _).alloc _⟩)
          · have hk3' : ¬ (k : Int) < 3 := by omega
            have hke : k = 3 := by omega
            subst hke
            obtain ⟨⟨vtx, hinvx⟩, hrow, ⟨g13, c13, he13, href⟩, hoks, hleH, hlt8, _⟩ := HB.out
            subst he13
            obtain ⟨A12, c12, hv12⟩ := row_shape hrow
            have hxl := bRowTo_xs (bTo zs i).ts d 3
            have hbl := (bRowTo_bs (bTo zs i).ts d 3).1
            rw [hxl] at hv12
            subst hv12
            generalize hnb : (bRowTo (bTo zs i).ts d 3).bs.length = nb at *
            obtain ⟨hrl, hfl, _, _⟩ := bTo_len zs i
            obtain ⟨A8, c8, hv8⟩ := row_shape hinvx.rows.own
            obtain ⟨A9, c9, hv9⟩ := row_shape hinvx.refs.own
            rw [hrl] at hv8
            rw [hfl] at hv9
            subst hv8
            subst hv9
            have HIX2 := Lib.hid hinvx
            have HROW := Lib.hid hrow
            have HREF := Lib.hid href
            have HRO := Lib.hid (show wr.ownsRow w.heap.size 48 1 (.slice A8 i c8) i vals8 by have := hinvx.rows.own; rw [hrl] at this; exact this)
            have HFO := Lib.hid (show wr.ownsRow w.heap.size 126 1 (.slice A9 i c9) i vals9 by have := hinvx.refs.own; rw [hfl] at this; exact this)
            have HRL := Lib.hid hrl
            have HFL := Lib.hid hfl
            have HOKS := Lib.hid hoks
            have hbw := hinvx.fr.size
            clear hinvx hrow href hrl hfl hoks hxl hnb
            go_wp2_with (first
              | (at_builtin; refine wpList_append_own_at _ rfl _ _ 61 rfl w.heap.size 48 i48 _ 1 24 Tryz.underlying61 hi48 hz480 hz481 hz482 rfl (by decide) _ i vals8 (by rfl) (HRO.out.alloc _) ⟨wr.heap.size, 0, none⟩ 1 1 [.slice A12 3 c12] (by rfl) rfl (World.news_of_block (heap_alloc_new wr _)) (by intro u hu; rw [List.mem_singleton] at hu; rw [hu]; rfl) (by unfold maxLen; omega) (by omega) (by simp; omega) ?_; intro v6 w6 hown6 hgr6 _ hat6; obtain ⟨A6, c6, hv6⟩ := row_shape hown6; subst hv6; have HI6 := Lib.hid (HIX2.out.pushRow HROW.out HINV.out.fr.size _ (by rw [HRL.out]; exact hown6) hgr6); have HB6 := Lib.hid (HIX2.out.pushRowB HREF.out _ hgr6); clear hown6 hgr6 hat6)
              | (at_builtin; refine wpList_append_own_at _ rfl _ _ 64 rfl w.heap.size 126 i66 _ 1 24 Tryz.underlying64 hi66 hz660 hz661 hz662 rfl (by decide) _ i vals9 (by rfl) ((show w6.ownsRow w.heap.size 126 1 (.slice A9 i c9) i vals9 by have := HI6.out.refs.own; rw [HFL.out] at this; exact this).alloc _) ⟨w6.heap.size, 0, none⟩ 1 1 [.slice (some ⟨g13, 0, none⟩) nb c13] (by rfl) rfl (World.news_of_block (heap_alloc_new w6 _)) (by intro u hu; rw [List.mem_singleton] at hu; rw [hu]; rfl) (by unfold maxLen; omega) (by omega) (by have := HI6.out.fr.size; simp; omega) ?_; intro v7 w7 hown7 hgr7 _ hat7; obtain ⟨A7, c7, hv7⟩ := row_shape hown7; subst hv7; have HI7 := Lib.hid (HI6.out.pushRef HB6.out (Nat.le_refl _) _ (by rw [HFL.out]; exact hown7) hgr7); clear hown7 hgr7 hat7))
            go_roundw
            case rel => exact ⟨i + 1, by go_num, by omega, by omega, ⟨vtx, _, _, by unfold bTo; rw [HDD2.out]; exact HI7.out⟩, fun j hj k' hk' => by
              by_cases e : j = i
              · subst e
                rw [HDD2.out]
                exact HOKS.out k' hk'
              · exact HO.out.ok j (by omega) k' hk'⟩
            case measure => simp [intOf]; omega
    · have hlt' : ¬ (i : Int) < (len : Int) := by omega
      obtain ⟨vt, vals8, vals9, hinv⟩ := HO.out.inv
      have hF0 : Fr (fun _ => False) wr (wr) := Fr.refl _ _
      have HIW := Lib.hid (hinv.frF hF0)
      have hwz := HIW.out.fr.size
      have HOF := Lib.hid (fun g c wy hs hr => HIW.out.rowsOk g c wy hi8 hs hr)
      have hlit := World.ownsRow_lit (base := w.heap.size) (size := 1) (e := 9) (wr) #[.string ⟨#[97]⟩, .string ⟨#[98]⟩, .string ⟨#[99]⟩] 3 hwz (by decide) rfl
      have HLIT := Lib.hid hlit
      have hrw := hinv.rows.own
      have hfw := hinv.refs.own
      obtain ⟨A8, c8, hv8⟩ := row_shape hrw
      obtain ⟨A9, c9, hv9⟩ := row_shape hfw
      subst hv8
      subst hv9
      clear hinv hlit hrw hfw
      go_wp2_with fail
      refine (HOF.out _ _ _ HLIT.out (HIW.out.rows.frF ((Fr.refl _ _).alloc _))).mono ?_
      rintro e w3 ⟨tv, rfl, ht, hf3⟩
      have FY : Fr (fun _ => False) (wr) w3 := ((Fr.refl _ _).alloc _).trans' hf3
      have hz3 := hf3.size
      have hzz : w.heap.size ≤ w3.heap.size := Nat.le_trans hwz FY.size
      have ht2 := ht.base (show w.heap.size ≤ _ from Nat.le_trans hwz (by simp))
      have hi3' := HIW.out.frF FY
      obtain ⟨vg, vc, vr, vals, rfl, hvrow, hrowsAt⟩ := ht2
      obtain ⟨Ar, cr, hvr⟩ := row_shape hrowsAt.own
      subst hvr
      have HI3 := Lib.hid hi3'
      have HVR := Lib.hid hvrow
      have HRA := Lib.hid hrowsAt
      have r0 : w3.cell? ⟨w.heap.size, 0, none⟩ = some (.slice none 0 0) := hi3'.res.cell 0
      have r1 : w3.cell? ⟨w.heap.size, 1, none⟩ = some (.slice none 0 0) := hi3'.res.cell 1
      have q0 := hi3'.res.frozen 0
      have q1 := hi3'.res.frozen 1
      have hrl := hi3'.res.lt
      clear hi3' hvrow hrowsAt ht hf3 FY hF0
      go_wp2_with fail
      generalize hnr : (bTo zs i).rows.length = nr at *
      have HBF := Lib.hid (show Blk ((w3.setCell ⟨w.heap.size, 0, none⟩ (.slice vg 3 vc)).setCell ⟨w.heap.size, 1, none⟩ (.slice Ar nr cr)) w.heap.size 63 #[.slice vg 3 vc, .slice Ar nr cr] from (HI3.out.res.set_ 0 (.slice vg 3 vc)).set_ 1 (.slice Ar nr cr))
      have FS : Fr (fun j => j = w.heap.size) w3 ((w3.setCell ⟨w.heap.size, 0, none⟩ (.slice vg 3 vc)).setCell ⟨w.heap.size, 1, none⟩ (.slice Ar nr cr)) := ((Fr.refl (fun j => j = w.heap.size) w3).setCell ⟨w.heap.size, 0, none⟩ (fun _ => rfl) _).setCell ⟨w.heap.size, 1, none⟩ (fun _ => rfl) _
      exact bodyPost_ret (v := .tuple #[.pointer (some ⟨b, 0, none⟩), .agg #[.slice vg 3 vc, .slice Ar nr cr], .slice A9 (bTo zs i).refs.length c9, .bool true]) (results_4 rfl _ _ w.heap.size 63 _ (0, 0) _ rfl HBF.out Tryz.underlying63 rfl (by kernel_rfl) _ _ _ rfl rfl rfl) rfl
        (.inr ⟨i, b, r, vt, _, _, vals9, hi8, by rw [HL.out]; exact hi, rfl, HI3.out.dict.frR HI3.out.res FS, ⟨vg, vc, _, vals, rfl, ownsRow_fr HVR.out FS (fun j hj e => own_blk_ne HVR.out HI3.out.res (by decide) (by rw [hj, e])), HRA.out.frB HI3.out.res (by decide) (by decide) FS⟩, HI3.out.refs.frB HI3.out.res (by decide) (by decide) FS, (HI3.out.fr.trans FS (fun j hj e => absurd e (by omega))), HO.out.ok⟩)

end Go.Proofs.YtebddgdkndmpjaaGreatDoor
