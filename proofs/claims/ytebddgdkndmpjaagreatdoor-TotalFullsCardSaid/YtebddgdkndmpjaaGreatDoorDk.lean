/- The law on a full dictionary: walked. -/
import Derived.Test.YtebddgdkndmpjaaGreatDoorDj
import Derived.Test.YtebddgdkndmpjaaGreatDoorDc
import Derived.Test.YtebddgdkndmpjaaGreatDoorHf
import Derived.Deep.CutBlock
import Derived.Deep.RegionLawGrows
import Derived.Deep.Cut
import Derived.Deep.CutRange
import Derived.WalkKit
import Derived.WalkLawsBesides
import Derived.WalkSpells
import Derived.Deep.QuietTactic
import Derived.BigRegion
import Derived.BigQuiet
import Derived.Lib.Hide
import Derived.Outline
import Derived.Deep.AppendLies
import Derived.Deep.RegionLaw
import Derived.Deep.RegionWith
import Derived.Deep.RegionHeld3
import Derived.Deep.LoopGhost
import Derived.Deep.DeepFit
import Derived.Laws.ResultCell
import Derived.Laws.RangeAny
import Derived.Deep.MidRow
import Derived.StillTailTactics
import Derived.OpenShut
namespace Go.Proofs.YtebddgdkndmpjaaGreatDoor
set_option linter.unusedVariables false
open Go.RowKit Go

theorem dig_at : ∀ k, k < 10 → (Lib.decDigits k).toArray = #[UInt8.ofNat (48 + k)] := by decide +kernel
theorem dig_val (k : Nat) (h : k < 10) : (UInt8.ofNat (48 + k)).toNat = 48 + k := by
  rw [UInt8.toNat_ofNat']
  omega
/-- The digit of a number. -/
def digU (k : Nat) : UInt8 := UInt8.ofNat (48 + k)
theorem digU_lo (k : Nat) (h : k < 10) : 48 ≤ (digU k).toNat := by
  unfold digU
  rw [dig_val k h]
  omega
theorem digU_hi (k : Nat) (h : k < 10) : (digU k).toNat ≤ 57 := by
  unfold digU
  rw [dig_val k h]
  omega
theorem small_lit (k : Nat) (h : k < 10) : smallTm k = .lit ⟨#[digU k]⟩ xInt ⟨#[]⟩ := by
  unfold smallTm
  rw [dig_at k h]
  rfl
theorem smallG : ∀ k, k < 10 → litGood ⟨(Lib.decDigits k).toArray⟩ xInt ⟨#[]⟩ = true := by decide +kernel
def xStr : ByteArray := ⟨#[104, 116, 116, 112, 58, 47, 47, 119, 119, 119, 46, 119, 51, 46, 111, 114, 103, 47, 50, 48, 48, 49, 47, 88, 77, 76, 83, 99, 104, 101, 109, 97, 35, 115, 116, 114, 105, 110, 103]⟩
/-- A term that is no number. -/
def plainTm : Tm := .lit ⟨#[97]⟩ xStr ⟨#[]⟩
theorem plain_good : plainTm.good = true := by
  show litGood ⟨#[97]⟩ xStr ⟨#[]⟩ = true
  decide +kernel
theorem small_good2 (k : Nat) (h : k < 10) : (smallTm k).good = true := smallG k h
theorem plain_ne (k : Nat) : ¬ plainTm = smallTm k := by
  intro e
  unfold plainTm smallTm at e
  injection e with _ e2 _
  exact absurd e2 (by unfold xStr xInt; decide)
theorem put_first (t : Tm) (hg : t.good = true) : putN [] t 1 = 0 ∧ putE [] t 1 = 0 ∧ putL [] t 1 = [t] := by
  have h : idxT [] t = none := rfl
  unfold putN putE putL
  rw [hg, h]
  simp
theorem put_again (t : Tm) (hg : t.good = true) : putN [t] t 1 = 0 ∧ putE [t] t 1 = 0 ∧ putL [t] t 1 = [t] := by
  have h : idxT [t] t = some 0 := by unfold idxT; rw [if_pos rfl]
  unfold putN putE putL
  rw [hg, h]
  exact ⟨rfl, rfl, rfl⟩
theorem put_full (t u : Tm) (hg : t.good = true) (hne : ¬ t = u) : putE [u] t 1 = 6 := by
  have h : idxT [u] t = none := by
    unfold idxT
    rw [if_neg hne]
    rfl
  unfold putE
  rw [hg, h]
  rfl
theorem term_zero (t : Tm) : termN [t] 0 = some t := rfl
/-- The dictionary's one term. -/
def fullTm (there : Bool) (k : Nat) : Tm := if there = true then smallTm k else plainTm

def abc : List ByteArray := [⟨#[97]⟩, ⟨#[98]⟩, ⟨#[99]⟩]
theorem abc_1 : ∀ j, j + 1 < 3 → Op.bytesLess (abc.getD (j + 1) ByteArray.empty).toList (abc.getD j ByteArray.empty).toList = false := by
  intro j hj
  have h : j = 0 ∨ j = 1 := by omega
  rcases h with rfl | rfl <;> decide +kernel
theorem abc_2 : ∀ j, j + 1 < 3 → ((abc.getD (j + 1) ByteArray.empty).toList == (abc.getD j ByteArray.empty).toList) = false := by
  intro j hj
  have h : j = 0 ∨ j = 1 := by omega
  rcases h with rfl | rfl <;> decide +kernel
theorem abc_3 : ∀ k, k < 3 → ∀ j, j < k → abc.getD j ByteArray.empty ≠ abc.getD k ByteArray.empty := by
  intro k hk j hj
  have h : (j = 0 ∧ k = 1) ∨ (j = 0 ∧ k = 2) ∨ (j = 1 ∧ k = 2) := by omega
  rcases h with ⟨rfl, rfl⟩ | ⟨rfl, rfl⟩ | ⟨rfl, rfl⟩ <;> decide
theorem abc_n : IsVar abc ⟨#[110]⟩ 3 false := by
  constructor
  all_goals decide +kernel
theorem n_n : IsVar [⟨#[110]⟩] ⟨#[110]⟩ 0 true := by
  constructor
  all_goals decide +kernel
/-- Rows of the first term. -/
def zrows (k : Nat) : List (List Int) := List.replicate k [0, 0, 0]
theorem zrows_len (k : Nat) : (zrows k).length = k := by unfold zrows; simp
theorem zrows_step (k : Nat) : zrows (k + 1) = zrows k ++ [[0, 0, 0]] := by unfold zrows; rw [List.replicate_succ']
theorem zrows_get (k i : Nat) (h : i < (zrows k).length) : (zrows k).getD i [] = [0, 0, 0] := by
  rw [zrows_len] at h
  unfold zrows
  rw [List.getD_eq_getElem?_getD, List.getElem?_replicate, if_pos h]
  rfl

/-- A row of one string, wherever it lies. -/
def OneRow (w : World) (v : Value) (T : ByteArray) : Prop := ∃ B, w.ownsRow B 9 1 v 1 [.string T]
theorem OneRow.alloc {w : World} {v : Value} {T : ByteArray} (h : OneRow w v T) (o : Obj) : OneRow (w.alloc o) v T := by
  obtain ⟨B, h⟩ := h
  exact ⟨B, World.ownsRow.alloc h o⟩
theorem OneRow.fr {w w' : World} {v : Value} {T : ByteArray} (h : OneRow w v T) (hf : Fr (fun _ => False) w w') : OneRow w' v T := by
  obtain ⟨B, h⟩ := h
  exact ⟨B, ownsRow_fr h hf (fun _ _ h => h)⟩
theorem row_lit (Y : World) (g : Nat) (T : ByteArray) (hg : g = Y.heap.size) : OneRow (Y.alloc (.cells #[.string T] 9)) (.slice (some ⟨g, 0, none⟩) 1 1) T := by
  subst hg
  exact ⟨_, World.ownsRow_lit (base := Y.heap.size) (e := 9) (size := 1) Y #[.string T] 1 (Nat.le_refl _) (by decide) rfl⟩
theorem lines_same2 (T : ByteArray) (c1 c2 : Nat) (A1 A2 : Option Addr) (w : World) (h1 : OneRow w (.slice A1 1 c1) T) (h2 : OneRow w (.slice A2 1 c2) T) :
    Calls Tryz.prog 28 #[.slice A1 1 c1, .slice A2 1 c2] w (IsB true w) := by
  obtain ⟨B1, h1⟩ := h1
  obtain ⟨B2, h2⟩ := h2
  exact lines_same T B1 B2 c1 c2 A1 A2 w h1 h2
theorem conv_dig (Y : World) (g k : Nat) (hk : k < 10) (hg : g = Y.heap.size) : (convert 86 9 (.slice (some ⟨g, 0, none⟩) 1 1)).run Tryz.prog (Y.alloc (.cells #[.int .u8 (48 + (k : Int))] 5)) = .ok (.string ⟨#[digU k]⟩) (Y.alloc (.cells #[.int .u8 (48 + (k : Int))] 5)) := by
  subst hg
  have hr := World.ownsRow_lit (base := Y.heap.size) (e := 5) (size := 1) Y #[.int .u8 (48 + (k : Int))] 1 (Nat.le_refl _) (by decide) rfl
  refine run_convert_bytes_back (P := Tryz.prog) _ 86 9 5 ⟨Y.heap.size, 0, none⟩ 1 [digU k] Tryz.underlying86 Tryz.underlying5 Tryz.underlying9 (fun j hj => ?_)
  have hj1 : j = 0 := by
    have : j < 1 := hj
    omega
  subst hj1
  have h := World.ownsRow.cellAt hr 0 (by decide)
  refine h.trans ?_
  show some (Value.int .u8 (48 + (k : Int))) = some (Value.int .u8 ((digU k).toNat : Int))
  unfold digU
  rw [dig_val k hk]
  simp

theorem wrap48 : ∀ k : Nat, k < 10 → IntKind.i64.wrap (48 + (k : Int)) = 48 + (k : Int) ∧ IntKind.u8.wrap (48 + (k : Int)) = 48 + (k : Int) := by decide +kernel

theorem conv_fr (Y W : World) (g k : Nat) (hk : k < 10) (hf : Fr (fun _ => False) (Y.alloc (.cells #[.int .u8 (48 + (k : Int))] 5)) W) (hg : g = Y.heap.size) : (convert 86 9 (.slice (some ⟨g, 0, none⟩) 1 1)).run Tryz.prog W = .ok (.string ⟨#[digU k]⟩) W := by
  subst hg
  have hr := ownsRow_fr (World.ownsRow_lit (base := Y.heap.size) (e := 5) (size := 1) Y #[.int .u8 (48 + (k : Int))] 1 (Nat.le_refl _) (by decide) rfl) hf (fun _ _ h => h)
  refine run_convert_bytes_back (P := Tryz.prog) _ 86 9 5 ⟨Y.heap.size, 0, none⟩ 1 [digU k] Tryz.underlying86 Tryz.underlying5 Tryz.underlying9 (fun j hj => ?_)
  have hj1 : j = 0 := by
    have : j < 1 := hj
    omega
  subst hj1
  have h := World.ownsRow.cellAt hr 0 (by decide)
  refine h.trans ?_
  show some (Value.int .u8 (48 + (k : Int))) = some (Value.int .u8 ((digU k).toNat : Int))
  unfold digU
  rw [dig_val k hk]
  simp

set_option maxRecDepth 100000 in
set_option maxHeartbeats 40000000 in
theorem tfulls_false (x : Int) (w : World) (hx0 : 0 ≤ x) (hx : x ≤ 255) (hg : Sg w) (hes : Es w) : Calls Tryz.prog 6 #[.int .u8 x, .bool false] w (IsB true w) := by
  obtain ⟨i48, hi48, hz480, hz481, hz482⟩ := info_parts info48
  have HA := Lib.hid (fun w => awake15_any w)
  have hyy : 0 ≤ x % 9 ∧ x % 9 ≤ 8 := by omega
  have hw0 : 10 < w.heap.size := Blk.lt hg
  have HSG := Lib.hid hg
  have HES := Lib.hid hes
  clear hg hes
  go_enter Tryz.func6, Tryz.ntmps6
  go_wp2_with fail
  refine (HA.out _).mono ?_
  rintro e w1 ⟨rfl, hf1⟩
  have HF1 := Lib.hid hf1
  clear hf1
  go_wp2_with fail
  generalize x % 9 = y at *
  obtain ⟨n, rfl⟩ := Int.eq_ofNat_of_zero_le hyy.1
  have hn : n ≤ 8 := by omega
  clear hyy hx0 hx
  refine (dnew_any 1 w1 (by decide) (by decide)).mono ?_
  rintro e w2 ⟨rfl, hd2, hf2⟩
  have HF2 := Lib.hid (HF1.out.trans' hf2)
  have hsz1 := HF1.out.size
  have hsz2 := hf2.size
  have HPU := Lib.hid (fun w3 (hf3 : Fr (fun _ => False) w2 w3) => put_any w3 w1.heap.size (w1.heap.size + 1) w1.heap.size (.slice none 0 0) [] 1 (plainTm) (hd2.frF hf3) ⟨by decide, by decide, by decide⟩ (by simp) (Nat.le_trans hsz2 hf3.size))
  have hpf := put_first (plainTm) plain_good
  rw [hpf.1, hpf.2.1, hpf.2.2] at HPU
  obtain ⟨dt, vt0, hty⟩ := Tm.shape (plainTm)
  have hdl := hd2.blk.lt
  clear hd2 hf2 hpf
  have HI := Lib.hid (fun w => plainS_any ⟨#[97]⟩ w)
  unfold plainTm Tm.val xStr at hty
  cases hty
  unfold plainTm Tm.val xStr at HPU
  go_wp2_with fail
  refine (HI.out _).mono ?_
  rintro e w3 ⟨rfl, hf3⟩
  have HF3 := Lib.hid (HF2.out.trans' hf3)
  have HPP := Lib.hid (HPU.out w3 hf3)
  clear hf3
  go_wp2_with fail
  refine HPP.out.mono ?_
  rintro e w4 ⟨vt4, rfl, hd4, hf4, hown4⟩
  have HD4 := Lib.hid (show IsDict w4 w1.heap.size (w1.heap.size + 1) w1.heap.size vt4 [plainTm] 1 from hd4)
  have HF4 := Lib.hid ((HF3.out.mono (T := fun j => w.heap.size ≤ j) (fun _ _ h => h.elim)).trans hf4 (fun j hj h => by rcases h with h | h | h; omega; omega; cases h))
  have hsz4 := HF4.out.size
  have hdl4 := hd4.blk.lt
  have HVT := Lib.hid (fun j h => (hd4.row.lt j h).2)
  clear hd4 hf4 hown4 HPP HPU
  go_wp2_with fail
  go_loopw [8, 35] (fun ov iv wr => ∃ (k : Nat) (A : Option Addr) (c : Nat) (vals : List Value), ov = .slice A k c ∧ iv = .int .i64 (k : Int) ∧ k ≤ n ∧ RowsAt wr w4.heap.size (.slice A k c) vals (zrows k) ∧ Fr (fun j => w4.heap.size ≤ j) w4 wr) (fun _ iv _ => n - (intOf iv).toNat)
  case atStart => exact ⟨0, none, 0, [], rfl, rfl, Nat.zero_le _, ⟨World.ownsRow_nil _ _ _ _, fun i hi => absurd hi (by simp [zrows])⟩, Fr.refl _ _⟩
  case round =>
    obtain ⟨k, A, c, vals, rfl, rfl, hk, hro, hf⟩ := hrel
    have hszr := hf.size
    by_cases hlt : k < n
    · have hlt' : (k : Int) < (n : Int) := by omega
      have hfa : Fr (fun _ => False) wr (wr.alloc (.cells #[.int .i64 0, .int .i64 0, .int .i64 0] 3)) := (Fr.refl _ _).alloc _
      have HRO := Lib.hid (hro.frF hfa)
      have HNR := Lib.hid (show IntRow (wr.alloc (.cells #[.int .i64 0, .int .i64 0, .int .i64 0] 3)) w4.heap.size (.slice (some ⟨wr.heap.size, 0, none⟩) 3 3) [0, 0, 0] from World.ownsRow_lit (base := w4.heap.size) (e := 3) (size := 1) wr #[.int .i64 0, .int .i64 0, .int .i64 0] 3 hszr (by decide) rfl)
      have HF := Lib.hid (hf.trans hfa (fun _ _ h => h.elim))
      have HZS := Lib.hid (zrows_step k)
      have HZL := Lib.hid (zrows_len k)
      have HNW := Lib.hid (show ((wr.alloc (.cells #[.int .i64 0, .int .i64 0, .int .i64 0] 3)).alloc (.cells #[.slice (some ⟨wr.heap.size, 0, none⟩) 3 3] 48)).heap[wr.heap.size + 1]? = some (.cells #[.slice (some ⟨wr.heap.size, 0, none⟩) 3 3] 48) by
        have h1 := heap_alloc_new (wr.alloc (.cells #[.int .i64 0, .int .i64 0, .int .i64 0] 3)) (.cells #[.slice (some ⟨wr.heap.size, 0, none⟩) 3 3] 48)
        rw [show (wr.alloc (.cells #[.int .i64 0, .int .i64 0, .int .i64 0] 3)).heap.size = wr.heap.size + 1 by simp] at h1
        exact h1)
      have HOW := Lib.hid (show (wr.alloc (.cells #[.int .i64 0, .int .i64 0, .int .i64 0] 3)).ownsRow w4.heap.size 48 1 (.slice A k c) k vals by have h := HRO.out.own; rw [zrows_len] at h; exact h)
      clear hfa hro hf
      go_wp2_with (at_builtin; refine wpList_append_own _ rfl _ _ 61 rfl w4.heap.size 48 i48 _ 1 24 Tryz.underlying61 hi48 hz480 hz481 hz482 rfl (by decide) (.slice A k c) k vals (by rfl) (HOW.out.alloc _) ⟨wr.heap.size + 1, 0, none⟩ 1 1 [.slice (some ⟨wr.heap.size, 0, none⟩) 3 3] (by rfl) rfl (World.news_of_block HNW.out) (by intro u hu; rw [List.mem_singleton] at hu; rw [hu]; rfl) (by unfold maxLen; omega) (by omega) (by simp; omega) ?_; intro v7 w7 hown7 hgr7 _; obtain ⟨A7, c7, hv7⟩ := row_shape hown7; subst hv7; have HOWN7 := Lib.hid hown7; have HGR7 := Lib.hid hgr7; clear hown7 hgr7)
      have HR7 := Lib.hid (show RowsAt w7 w4.heap.size (.slice A7 (k + 1) c7) (vals ++ [.slice (some ⟨wr.heap.size, 0, none⟩) 3 3]) (zrows (k + 1)) by
        rw [HZS.out]
        exact HRO.out.push HNR.out (Nat.le_refl _) _ (by rw [HZL.out]; exact HOWN7.out) HGR7.out)
      have HF7 := Lib.hid (show Fr (fun j => w4.heap.size ≤ j) w4 w7 from (HF.out.alloc _).trans (Fr.of_grown HGR7.out) (fun j _ e => (HOW.out.lt j e).1))
      clear HGR7 HOWN7
      go_roundw
      case rel => exact ⟨k + 1, A7, c7, _, rfl, by go_num, by omega, HR7.out, HF7.out⟩
      case measure => simp only [intOf]; omega
    · have hlt' : ¬ (k : Int) < (n : Int) := by omega
      obtain rfl : k = n := by omega
      have hfa : Fr (fun _ => False) wr (wr.alloc (.cells #[.string ⟨#[97]⟩, .string ⟨#[98]⟩, .string ⟨#[99]⟩] 9)) := (Fr.refl _ _).alloc _
      have HOF := Lib.hid (of_any 3 3 w4.heap.size (some ⟨wr.heap.size, 0, none⟩) (.slice A k c) vals abc (zrows k) _ (by decide) (fun h => absurd h (by decide)) rfl abc_1 abc_2 abc_3 (fun i hi => by rw [zrows_get k i hi]; rfl) (fun i hi q hq => by
        rw [zrows_get k i hi]
        have h3 : q = 0 ∨ q = 1 ∨ q = 2 := by omega
        rcases h3 with rfl | rfl | rfl <;> decide) (by rw [zrows_len]; omega) (World.ownsRow_lit (base := w4.heap.size) (e := 9) (size := 1) wr #[.string ⟨#[97]⟩, .string ⟨#[98]⟩, .string ⟨#[99]⟩] 3 hszr (by decide) rfl) (hro.frF hfa))
      have HF5 := Lib.hid (hf.trans hfa (fun _ _ h => h.elim))
      clear hro hf hfa
      go_wp2_with fail
      refine HOF.out.mono ?_
      rintro e w6 ⟨tv, rfl, ⟨V, vc, vr, vals6, rfl, hv6, hr6⟩, hf6⟩
      obtain ⟨R, rc, hvr⟩ := row_shape hr6.own
      rw [zrows_len] at hvr
      subst hvr
      have hf46 : Fr (fun j => w4.heap.size ≤ j) w4 w6 := HF5.out.trans hf6 (fun _ _ h => h.elim)
      have hfa : Fr (fun _ => False) w6 (w6.alloc (.cells #[.slice V 3 vc, .slice R k rc] 63)) := (Fr.refl _ _).alloc _
      have hf47 := hf46.trans hfa (fun _ _ h => h.elim)
      have HF7 := Lib.hid (HF4.out.trans hf47 (fun j hj h => by omega))
      have HD7 := Lib.hid (HD4.out.fr hf47 (fun h => by omega) (fun h => by omega) (fun j hj h => by have := HVT.out j hj; omega))
      have HV7 := Lib.hid (ownsRow_fr hv6 hfa (fun _ _ h => h))
      have HR7 := Lib.hid (hr6.frF hfa)
      have HT7 := Lib.hid (Blk.new w6 63 #[.slice V 3 vc, .slice R k rc])
      have HCP := Lib.hid (cnt_parse _ (Blk.fr HSG.out HF7.out (fun h => by omega)))
      have HE7 := Lib.hid (HES.out.frN (by omega) HF7.out)
      have hszt : w4.heap.size ≤ w6.heap.size := hf46.size
      unfold cntT at HCP
      clear hv6 hr6 hf6 hf46 hfa hf47
      go_wp2_with fail
      generalize w6.alloc (.cells #[.slice V 3 vc, .slice R k rc] 63) = w7 at *
      refine HCP.out.mono ?_
      rintro e w8 ⟨cs, rfl, ⟨g, gv, rfl, hb8, ⟨A8, c8, rfl⟩⟩, hf8⟩
      unfold tRS at *
      have hfb : Fr (fun _ => False) w8 (w8.alloc (.cells #[.string ⟨#[82, 83, 84, 82, 69, 65, 77]⟩, .string ⟨#[117, 58, 111]⟩, .bool false, .slice (some ⟨g, 0, none⟩) 1 1, .slice none 0 0, .slice A8 1 c8, .slice none 0 0] 30)) := (Fr.refl _ _).alloc _
      have hf79 := hf8.trans' hfb
      have t7 := HT7.out.fr hf8 (fun h => h)
      have t0 : w8.cell? ⟨w6.heap.size, 0, none⟩ = some (.slice V 3 vc) := t7.cell 0
      have t1 : w8.cell? ⟨w6.heap.size, 1, none⟩ = some (.slice R k rc) := t7.cell 1
      have tl := t7.lt
      have HF9 := Lib.hid (HF7.out.trans hf79 (fun _ _ h => h.elim))
      have HD9 := Lib.hid (HD7.out.frF hf79)
      have HE9 := Lib.hid (HE7.out.frF hf79)
      have HV9 := Lib.hid (ownsRow_fr HV7.out hf79 (fun _ _ h => h))
      have HR9 := Lib.hid (HR7.out.frF hf79)
      have hb9 : Blk (w8.alloc (.cells #[.string ⟨#[82, 83, 84, 82, 69, 65, 77]⟩, .string ⟨#[117, 58, 111]⟩, .bool false, .slice (some ⟨g, 0, none⟩) 1 1, .slice none 0 0, .slice A8 1 c8, .slice none 0 0] 30)) g 176 #[.string ⟨#[110]⟩, .string ⟨#[67, 79, 85, 78, 84]⟩, .string ⟨#[42]⟩] := (show Blk w8 g 176 #[.string ⟨#[110]⟩, .string ⟨#[67, 79, 85, 78, 84]⟩, .string ⟨#[42]⟩] from hb8).fr hfb (fun h => h)
      have htot := total_bad 6 (by decide) ⟨#[82, 83, 84, 82, 69, 65, 77]⟩ ⟨#[117, 58, 111]⟩ ⟨#[110]⟩ ⟨#[67, 79, 85, 78, 84]⟩ g 1 1 c8 A8 V R 3 vc rc _ _ w1.heap.size (w1.heap.size + 1) w1.heap.size 3 false vals6 (zrows k) abc vt4 [plainTm] 1 _ (by decide +kernel) (by rw [zrows_len]; omega) (by simp) (by have := HF9.out.size; have := HD9.out.blk.lt; omega) (by rw [zrows_len]; exact put_full _ _ (small_good2 k (by omega)) (fun e => plain_ne k e.symm)) (by decide) rfl abc_n (fun h => by cases h) (fun i hi => by rw [zrows_get k i hi]; rfl) (fun i hi q hq => by
        rw [zrows_get k i hi]
        have h3 : q = 0 ∨ q = 1 ∨ q = 2 := by omega
        rcases h3 with rfl | rfl | rfl <;> decide) hb9 HV9.out (by have h := HR9.out; rw [zrows_len]; exact h) HD9.out
      rw [zrows_len] at htot
      have HTO := Lib.hid htot
      clear htot hb8 hf8 hfb hf79 t7 hb9
      go_wp2_with fail
      refine HTO.out.mono ?_
      rintro e w10 ⟨vt5, rfl, hd10, hf10, hown10⟩
      have HF10 := Lib.hid (HF9.out.trans hf10 (fun j hj h => by
        rcases h with h | h | h
        · omega
        · omega
        · exact Nat.le_trans hsz1 ((HD9.out.row.lt j h).1)))
      clear hd10 hf10 hown10
      go_wp2_with fail
      go_ret
      exact ⟨rfl, (HF10.out.alloc _).shut (Nat.le_refl _)⟩

set_option maxRecDepth 100000 in
set_option maxHeartbeats 40000000 in
theorem tfulls_true (x : Int) (w : World) (hx0 : 0 ≤ x) (hx : x ≤ 255) (hg : Sg w) (hes : Es w) : Calls Tryz.prog 6 #[.int .u8 x, .bool true] w (IsB true w) := by
  obtain ⟨i48, hi48, hz480, hz481, hz482⟩ := info_parts info48
  have HA := Lib.hid (fun w => awake15_any w)
  have hyy : 0 ≤ x % 9 ∧ x % 9 ≤ 8 := by omega
  have hw0 : 10 < w.heap.size := Blk.lt hg
  have HSG := Lib.hid hg
  have HES := Lib.hid hes
  clear hg hes
  go_enter Tryz.func6, Tryz.ntmps6
  go_wp2_with fail
  refine (HA.out _).mono ?_
  rintro e w1 ⟨rfl, hf1⟩
  have HF1 := Lib.hid hf1
  clear hf1
  go_wp2_with fail
  generalize x % 9 = y at *
  obtain ⟨n, rfl⟩ := Int.eq_ofNat_of_zero_le hyy.1
  have hn : n ≤ 8 := by omega
  clear hyy hx0 hx
  refine (dnew_any 1 w1 (by decide) (by decide)).mono ?_
  rintro e w2 ⟨rfl, hd2, hf2⟩
  have HF2 := Lib.hid (HF1.out.trans' hf2)
  have hsz1 := HF1.out.size
  have hsz2 := hf2.size
  have HPU := Lib.hid (fun w3 (hf3 : Fr (fun _ => False) w2 w3) => put_any w3 w1.heap.size (w1.heap.size + 1) w1.heap.size (.slice none 0 0) [] 1 (smallTm n) (hd2.frF hf3) (small_short n (by omega)) (by simp) (Nat.le_trans hsz2 hf3.size))
  have hpf := put_first (smallTm n) (small_good2 n (by omega))
  rw [hpf.1, hpf.2.1, hpf.2.2] at HPU
  obtain ⟨dt, vt0, hty⟩ := Tm.shape (smallTm n)
  have hdl := hd2.blk.lt
  clear hd2 hf2 hpf
  have HI := Lib.hid (fun w => int_small n (by omega) w)
  have HTY := Lib.hid hty
  unfold smallTm Tm.val at hty
  cases hty
  unfold smallTm Tm.val at HPU
  go_wp2_with fail
  refine (HI.out _).mono ?_
  rintro e w3 ⟨rfl, hf3⟩
  have HF3 := Lib.hid (HF2.out.trans' hf3)
  have HPP := Lib.hid (HPU.out w3 hf3)
  clear hf3
  go_wp2_with fail
  refine HPP.out.mono ?_
  rintro e w4 ⟨vt4, rfl, hd4, hf4, hown4⟩
  have HD4 := Lib.hid (show IsDict w4 w1.heap.size (w1.heap.size + 1) w1.heap.size vt4 [smallTm n] 1 from hd4)
  have HF4 := Lib.hid ((HF3.out.mono (T := fun j => w.heap.size ≤ j) (fun _ _ h => h.elim)).trans hf4 (fun j hj h => by rcases h with h | h | h; omega; omega; cases h))
  have hsz4 := HF4.out.size
  have hdl4 := hd4.blk.lt
  have HVT := Lib.hid (fun j h => (hd4.row.lt j h).2)
  clear hd4 hf4 hown4 HPP HPU
  go_wp2_with fail
  go_loopw [8, 35] (fun ov iv wr => ∃ (k : Nat) (A : Option Addr) (c : Nat) (vals : List Value), ov = .slice A k c ∧ iv = .int .i64 (k : Int) ∧ k ≤ n ∧ RowsAt wr w4.heap.size (.slice A k c) vals (zrows k) ∧ Fr (fun j => w4.heap.size ≤ j) w4 wr) (fun _ iv _ => n - (intOf iv).toNat)
  case atStart => exact ⟨0, none, 0, [], rfl, rfl, Nat.zero_le _, ⟨World.ownsRow_nil _ _ _ _, fun i hi => absurd hi (by simp [zrows])⟩, Fr.refl _ _⟩
  case round =>
    obtain ⟨k, A, c, vals, rfl, rfl, hk, hro, hf⟩ := hrel
    have hszr := hf.size
    by_cases hlt : k < n
    · have hlt' : (k : Int) < (n : Int) := by omega
      have hfa : Fr (fun _ => False) wr (wr.alloc (.cells #[.int .i64 0, .int .i64 0, .int .i64 0] 3)) := (Fr.refl _ _).alloc _
      have HRO := Lib.hid (hro.frF hfa)
      have HNR := Lib.hid (show IntRow (wr.alloc (.cells #[.int .i64 0, .int .i64 0, .int .i64 0] 3)) w4.heap.size (.slice (some ⟨wr.heap.size, 0, none⟩) 3 3) [0, 0, 0] from World.ownsRow_lit (base := w4.heap.size) (e := 3) (size := 1) wr #[.int .i64 0, .int .i64 0, .int .i64 0] 3 hszr (by decide) rfl)
      have HF := Lib.hid (hf.trans hfa (fun _ _ h => h.elim))
      have HZS := Lib.hid (zrows_step k)
      have HZL := Lib.hid (zrows_len k)
      have HNW := Lib.hid (show ((wr.alloc (.cells #[.int .i64 0, .int .i64 0, .int .i64 0] 3)).alloc (.cells #[.slice (some ⟨wr.heap.size, 0, none⟩) 3 3] 48)).heap[wr.heap.size + 1]? = some (.cells #[.slice (some ⟨wr.heap.size, 0, none⟩) 3 3] 48) by
        have h1 := heap_alloc_new (wr.alloc (.cells #[.int .i64 0, .int .i64 0, .int .i64 0] 3)) (.cells #[.slice (some ⟨wr.heap.size, 0, none⟩) 3 3] 48)
        rw [show (wr.alloc (.cells #[.int .i64 0, .int .i64 0, .int .i64 0] 3)).heap.size = wr.heap.size + 1 by simp] at h1
        exact h1)
      have HOW := Lib.hid (show (wr.alloc (.cells #[.int .i64 0, .int .i64 0, .int .i64 0] 3)).ownsRow w4.heap.size 48 1 (.slice A k c) k vals by have h := HRO.out.own; rw [zrows_len] at h; exact h)
      clear hfa hro hf
      go_wp2_with (at_builtin; refine wpList_append_own _ rfl _ _ 61 rfl w4.heap.size 48 i48 _ 1 24 Tryz.underlying61 hi48 hz480 hz481 hz482 rfl (by decide) (.slice A k c) k vals (by rfl) (HOW.out.alloc _) ⟨wr.heap.size + 1, 0, none⟩ 1 1 [.slice (some ⟨wr.heap.size, 0, none⟩) 3 3] (by rfl) rfl (World.news_of_block HNW.out) (by intro u hu; rw [List.mem_singleton] at hu; rw [hu]; rfl) (by unfold maxLen; omega) (by omega) (by simp; omega) ?_; intro v7 w7 hown7 hgr7 _; obtain ⟨A7, c7, hv7⟩ := row_shape hown7; subst hv7; have HOWN7 := Lib.hid hown7; have HGR7 := Lib.hid hgr7; clear hown7 hgr7)
      have HR7 := Lib.hid (show RowsAt w7 w4.heap.size (.slice A7 (k + 1) c7) (vals ++ [.slice (some ⟨wr.heap.size, 0, none⟩) 3 3]) (zrows (k + 1)) by
        rw [HZS.out]
        exact HRO.out.push HNR.out (Nat.le_refl _) _ (by rw [HZL.out]; exact HOWN7.out) HGR7.out)
      have HF7 := Lib.hid (show Fr (fun j => w4.heap.size ≤ j) w4 w7 from (HF.out.alloc _).trans (Fr.of_grown HGR7.out) (fun j _ e => (HOW.out.lt j e).1))
      clear HGR7 HOWN7
      go_roundw
      case rel => exact ⟨k + 1, A7, c7, _, rfl, by go_num, by omega, HR7.out, HF7.out⟩
      case measure => simp only [intOf]; omega
    · have hlt' : ¬ (k : Int) < (n : Int) := by omega
      obtain rfl : k = n := by omega
      have hfa : Fr (fun _ => False) wr (wr.alloc (.cells #[.string ⟨#[97]⟩, .string ⟨#[98]⟩, .string ⟨#[99]⟩] 9)) := (Fr.refl _ _).alloc _
      have HOF := Lib.hid (of_any 3 3 w4.heap.size (some ⟨wr.heap.size, 0, none⟩) (.slice A k c) vals abc (zrows k) _ (by decide) (fun h => absurd h (by decide)) rfl abc_1 abc_2 abc_3 (fun i hi => by rw [zrows_get k i hi]; rfl) (fun i hi q hq => by
        rw [zrows_get k i hi]
        have h3 : q = 0 ∨ q = 1 ∨ q = 2 := by omega
        rcases h3 with rfl | rfl | rfl <;> decide) (by rw [zrows_len]; omega) (World.ownsRow_lit (base := w4.heap.size) (e := 9) (size := 1) wr #[.string ⟨#[97]⟩, .string ⟨#[98]⟩, .string ⟨#[99]⟩] 3 hszr (by decide) rfl) (hro.frF hfa))
      have HF5 := Lib.hid (hf.trans hfa (fun _ _ h => h.elim))
      clear hro hf hfa
      go_wp2_with fail
      refine HOF.out.mono ?_
      rintro e w6 ⟨tv, rfl, ⟨V, vc, vr, vals6, rfl, hv6, hr6⟩, hf6⟩
      obtain ⟨R, rc, hvr⟩ := row_shape hr6.own
      rw [zrows_len] at hvr
      subst hvr
      have hf46 : Fr (fun j => w4.heap.size ≤ j) w4 w6 := HF5.out.trans hf6 (fun _ _ h => h.elim)
      have hfa : Fr (fun _ => False) w6 (w6.alloc (.cells #[.slice V 3 vc, .slice R k rc] 63)) := (Fr.refl _ _).alloc _
      have hf47 := hf46.trans hfa (fun _ _ h => h.elim)
      have HF7 := Lib.hid (HF4.out.trans hf47 (fun j hj h => by omega))
      have HD7 := Lib.hid (HD4.out.fr hf47 (fun h => by omega) (fun h => by omega) (fun j hj h => by have := HVT.out j hj; omega))
      have HV7 := Lib.hid (ownsRow_fr hv6 hfa (fun _ _ h => h))
      have HR7 := Lib.hid (hr6.frF hfa)
      have HT7 := Lib.hid (Blk.new w6 63 #[.slice V 3 vc, .slice R k rc])
      have HCP := Lib.hid (cnt_parse _ (Blk.fr HSG.out HF7.out (fun h => by omega)))
      have HE7 := Lib.hid (HES.out.frN (by omega) HF7.out)
      have hszt : w4.heap.size ≤ w6.heap.size := hf46.size
      unfold cntT at HCP
      clear hv6 hr6 hf6 hf46 hfa hf47
      go_wp2_with fail
      generalize w6.alloc (.cells #[.slice V 3 vc, .slice R k rc] 63) = w7 at *
      refine HCP.out.mono ?_
      rintro e w8 ⟨cs, rfl, ⟨g, gv, rfl, hb8, ⟨A8, c8, rfl⟩⟩, hf8⟩
      unfold tRS at *
      have hfb : Fr (fun _ => False) w8 (w8.alloc (.cells #[.string ⟨#[82, 83, 84, 82, 69, 65, 77]⟩, .string ⟨#[117, 58, 111]⟩, .bool false, .slice (some ⟨g, 0, none⟩) 1 1, .slice none 0 0, .slice A8 1 c8, .slice none 0 0] 30)) := (Fr.refl _ _).alloc _
      have hf79 := hf8.trans' hfb
      have t7 := HT7.out.fr hf8 (fun h => h)
      have t0 : w8.cell? ⟨w6.heap.size, 0, none⟩ = some (.slice V 3 vc) := t7.cell 0
      have t1 : w8.cell? ⟨w6.heap.size, 1, none⟩ = some (.slice R k rc) := t7.cell 1
      have tl := t7.lt
      have HF9 := Lib.hid (HF7.out.trans hf79 (fun _ _ h => h.elim))
      have HD9 := Lib.hid (HD7.out.frF hf79)
      have HE9 := Lib.hid (HE7.out.frF hf79)
      have HV9 := Lib.hid (ownsRow_fr HV7.out hf79 (fun _ _ h => h))
      have HR9 := Lib.hid (HR7.out.frF hf79)
      have hb9 : Blk (w8.alloc (.cells #[.string ⟨#[82, 83, 84, 82, 69, 65, 77]⟩, .string ⟨#[117, 58, 111]⟩, .bool false, .slice (some ⟨g, 0, none⟩) 1 1, .slice none 0 0, .slice A8 1 c8, .slice none 0 0] 30)) g 176 #[.string ⟨#[110]⟩, .string ⟨#[67, 79, 85, 78, 84]⟩, .string ⟨#[42]⟩] := (show Blk w8 g 176 #[.string ⟨#[110]⟩, .string ⟨#[67, 79, 85, 78, 84]⟩, .string ⟨#[42]⟩] from hb8).fr hfb (fun h => h)
      have htot := total_ok ⟨#[82, 83, 84, 82, 69, 65, 77]⟩ ⟨#[117, 58, 111]⟩ ⟨#[110]⟩ ⟨#[67, 79, 85, 78, 84]⟩ g 1 1 c8 A8 V R 3 vc rc _ _ w1.heap.size (w1.heap.size + 1) w1.heap.size 3 false vals6 (zrows k) abc vt4 [smallTm k] 1 _ (by decide +kernel) (by rw [zrows_len]; omega) (by simp) (by have := HF9.out.size; have := HD9.out.blk.lt; omega) (by rw [zrows_len]; exact (put_again _ (small_good2 k (by omega))).2.1) (by rw [zrows_len, (put_again _ (small_good2 k (by omega))).1]; decide) (by decide) rfl abc_n (fun h => by cases h) (fun i hi => by rw [zrows_get k i hi]; rfl) (fun i hi q hq => by
        rw [zrows_get k i hi]
        have h3 : q = 0 ∨ q = 1 ∨ q = 2 := by omega
        rcases h3 with rfl | rfl | rfl <;> decide) hb9 HV9.out (by have h := HR9.out; rw [zrows_len]; exact h) HD9.out
      rw [zrows_len, (put_again _ (small_good2 k (by omega))).1, (put_again _ (small_good2 k (by omega))).2.2] at htot
      have HTO := Lib.hid htot
      clear htot hb8 hf8 hfb hf79 t7 hb9
      go_wp2_with fail
      refine HTO.out.mono ?_
      rintro e w10 ⟨vt5, tv, rfl, ⟨OV, oc, orr, ovals, rfl, ho1, ho2⟩, hd10, hf10, hown10⟩
      obtain ⟨OA, occ, hor⟩ := row_shape ho2.own
      have hor1 : orr = .slice OA 1 occ := hor
      subst hor1
      clear hor
      have hnc10 : ∀ j, vt5.ownBlock = some j → w.heap.size ≤ j := fun j hj => by
        have := (hd10.row.lt j hj).1
        omega
      obtain ⟨rg, rfl, _, _, _⟩ := row_form ho2.own (by decide)
      have hx0 := ho2.each 0 Nat.zero_lt_one
      have hcx : w10.cell? ⟨rg, 0, none⟩ = some (ovals.getD 0 undef) := by
        have h := World.ownsRow.cellAt ho2.own 0 (by decide)
        have hl1 : ovals.length = 1 := ho2.own.1
        rw [h]
        match ovals, hl1 with
        | [x], _ => rfl
      have HF10 := Lib.hid (HF9.out.trans hf10 (fun j hj h => by
        rcases h with h | h | h
        · omega
        · omega
        · exact Nat.le_trans hsz1 ((HD9.out.row.lt j h).1)))
      have h10 := HF10.out.size
      have fa : Fr (fun _ => False) w10 (w10.alloc (.cells #[.slice OV 1 oc, .slice (some ⟨rg, 0, none⟩) 1 occ] 63)) := (Fr.refl _ _).alloc _
      have hbt := Blk.new w10 63 #[.slice OV 1 oc, .slice (some ⟨rg, 0, none⟩) 1 occ]
      have c0 := hbt.cell 0
      have c1 := hbt.cell 1
      have HT10 := Lib.hid hbt
      have hes11 := HES.out.frN (by omega) HF10.out
      have HTG := Lib.hid (fun wy (hf : Fr (fun _ => False) (w10.alloc (.cells #[.slice OV 1 oc, .slice (some ⟨rg, 0, none⟩) 1 occ] 63)) wy) => tabGood_any oc 1 _ _ OV [⟨#[110]⟩] _ ovals [[0]] wy (by decide) (by decide) (by decide) (by decide) (ho2.frF (fa.trans' hf)) (fun k hk => by omega) (ownsRow_fr ho1 (fa.trans' hf) (fun _ _ h => h)))
      have HVA := Lib.hid (fun wy (hf : Fr (fun _ => False) (w10.alloc (.cells #[.slice OV 1 oc, .slice (some ⟨rg, 0, none⟩) 1 occ] 63)) wy) => value_any 1 oc _ _ 0 OV (.slice (some ⟨rg, 0, none⟩) 1 occ) [⟨#[110]⟩] ⟨#[110]⟩ true (ovals.getD 0 undef) [0] wy (by decide) n_n rfl (ownsRow_fr ho1 (fa.trans' hf) (fun _ _ h => h)) (hx0.fr (fa.trans' hf) (fun _ _ h => h)))
      have HLO := Lib.hid (fun wy (N : Option Addr) nc (hf : Fr (fun _ => False) (w10.alloc (.cells #[.slice OV 1 oc, .slice (some ⟨rg, 0, none⟩) 1 occ] 63)) wy) (hN : OneRow wy (.slice N 1 nc) ⟨#[110]⟩) => hN.elim fun B1 hN => lines_one ⟨#[110]⟩ (digU k) nc oc occ B1 _ _ _ (w1.heap.size + 1) w1.heap.size 0 N OV (some ⟨rg, 0, none⟩) ovals vt5 [smallTm k] 1 wy (digU_lo k (by omega)) (digU_hi k (by omega)) (hes11.frF (fa.trans' hf)) (by have := hf.size; have := fa.size; omega) (by simp) n_n (by rw [term_zero, small_lit k (by omega)]) hN (ownsRow_fr ho1 (fa.trans' hf) (fun _ _ h => h)) (ho2.frF (fa.trans' hf)) (hd10.frF (fa.trans' hf)))
      have HRD := Lib.hid (fun wy => rd_text (digU k) wy (digU_lo k (by omega)) (digU_hi k (by omega)))
      have HSX := Lib.hid (fun wy (hf : Fr (fun _ => False) (w10.alloc (.cells #[.slice OV 1 oc, .slice (some ⟨rg, 0, none⟩) 1 occ] 63)) wy) => (⟨cell_fr hf c0, cell_fr hf c1, cell_fr (fa.trans' hf) hcx, hf⟩ : wy.cell? ⟨w10.heap.size, 0, none⟩ = some (.slice OV 1 oc) ∧ wy.cell? ⟨w10.heap.size, 1, none⟩ = some (.slice (some ⟨rg, 0, none⟩) 1 occ) ∧ wy.cell? ⟨rg, 0, none⟩ = some (ovals.getD 0 undef) ∧ Fr (fun _ => False) (w10.alloc (.cells #[.slice OV 1 oc, .slice (some ⟨rg, 0, none⟩) 1 occ] 63)) wy))
      generalize hXV : ovals.getD 0 undef = XV at *
      have HFA := Lib.hid (HF10.out.trans fa (fun _ _ h => h.elim))
      unfold valN at HVA
      clear fa hbt hcx hx0 ho1 ho2 hd10 hf10 hown10 hes11 hnc10
      go_upto_region 20 with (fail)
      generalize hTX : digT (digU k) = TX at *
      have hk48 := (wrap48 k (by omega)).1
      have hk8 := (wrap48 k (by omega)).2
      have hcv2 := fun (Y : World) (o : Obj) (g : Nat) (h : g = Y.heap.size) => conv_fr Y _ g k (by omega) ((Fr.refl _ (Y.alloc (.cells #[.int .u8 (48 + (k : Int))] 5))).alloc o) h
      have hcv1 := fun (Y : World) (g : Nat) (h : g = Y.heap.size) => conv_dig Y g k (by omega) h
      refine wp_region_noPanic ?_
      refine wp_region_held_drew (S := (fun w' => w'.cell? ⟨w10.heap.size, 0, none⟩ = some (.slice OV 1 oc) ∧ w'.cell? ⟨w10.heap.size, 1, none⟩ = some (.slice (some ⟨rg, 0, none⟩) 1 occ) ∧ w'.cell? ⟨rg, 0, none⟩ = some XV ∧ Fr (fun _ => False) (w10.alloc (.cells #[.slice OV 1 oc, .slice (some ⟨rg, 0, none⟩) 1 occ] 63)) w')) (by kernel_rfl) ?_ (fun hHeld => ?_)
      · try dsimp only
        first | assumption | exact HSX.out _ (Fr.refl _ _).drew | exact HSX.out _ (Fr.trans' (And.right (And.right (And.right ‹_ ∧ _ ∧ _ ∧ Fr (fun _ => False) _ _›))) ‹Fr (fun _ => False) _ _›) | exact HSX.out _ (Fr.alloc (And.right (And.right (And.right ‹_ ∧ _ ∧ _ ∧ Fr (fun _ => False) _ _›))) _)
      refine wpAnyH_take (i := 0) (oi := _) (v := ?_) (by simp only [List.getElem?_toArray, List.getElem?_cons_zero]; rfl) (by kernel_rfl) (by kernel_rfl) (by kernel_rfl) (fun _ _ _ h => h) (Or.inl ⟨by rfl, ?_⟩) (by assumption) ?_
      rotate_left
      · intro w hSw
        try dsimp only at hSw
        go_simp
        all_goals (with_reducible rfl)
      try simp only [Act.put, List.setIfInBounds_toArray, List.set_cons_zero, List.set_cons_succ]
      refine wpAnyH_take (i := 1) (oi := _) (v := ?_) (by simp only [List.getElem?_toArray, List.getElem?_cons_zero, List.getElem?_cons_succ]; rfl) (by kernel_rfl) (by kernel_rfl) (by kernel_rfl) (fun _ _ _ h => h) (Or.inl ⟨by rfl, ?_⟩) (by assumption) ?_
      rotate_left
      · intro w hSw
        try dsimp only at hSw
        go_simp
        all_goals (with_reducible rfl)
      try simp only [Act.put, List.setIfInBounds_toArray, List.set_cons_zero, List.set_cons_succ]
      refine wpAnyH_take (i := 2) (oi := _) (v := ?_) (by simp only [List.getElem?_toArray, List.getElem?_cons_zero, List.getElem?_cons_succ]; rfl) (by kernel_rfl) (by kernel_rfl) (by kernel_rfl) (fun _ _ _ h => h) (Or.inl ⟨by rfl, ?_⟩) (by assumption) ?_
      rotate_left
      · intro w hSw
        try dsimp only at hSw
        go_simp
        all_goals (with_reducible rfl)
      try simp only [Act.put, List.setIfInBounds_toArray, List.set_cons_zero, List.set_cons_succ]
      refine wpAnyH_take (i := 3) (oi := _) (v := ?_) (by simp only [List.getElem?_toArray, List.getElem?_cons_zero, List.getElem?_cons_succ]; rfl) (by kernel_rfl) (by kernel_rfl) (by kernel_rfl) (fun _ _ _ h => h) (Or.inl ⟨by rfl, ?_⟩) (by assumption) ?_
      rotate_left
      · intro w hSw
        try dsimp only at hSw
        go_simp
        all_goals (with_reducible rfl)
      try simp only [Act.put, List.setIfInBounds_toArray, List.set_cons_zero, List.set_cons_succ]
      refine wpAnyH_take (i := 4) (oi := _) (v := ?_) (by simp only [List.getElem?_toArray, List.getElem?_cons_zero, List.getElem?_cons_succ]; rfl) (by kernel_rfl) (by kernel_rfl) (by kernel_rfl) (fun _ _ _ h => h) (Or.inl ⟨by rfl, ?_⟩) (by assumption) ?_
      rotate_left
      · intro w hSw
        try dsimp only at hSw
        go_simp
        all_goals (with_reducible rfl)
      try simp only [Act.put, List.setIfInBounds_toArray, List.set_cons_zero, List.set_cons_succ]
      refine wpAnyH_take (i := 5) (oi := _) (v := ?_) (by simp only [List.getElem?_toArray, List.getElem?_cons_zero, List.getElem?_cons_succ]; rfl) (by kernel_rfl) (by kernel_rfl) (by kernel_rfl) (fun _ _ _ h => h) (Or.inl ⟨by rfl, ?_⟩) (by assumption) ?_
      rotate_left
      · intro w hSw
        try dsimp only at hSw
        go_simp
        all_goals (with_reducible rfl)
      try simp only [Act.put, List.setIfInBounds_toArray, List.set_cons_zero, List.set_cons_succ]
      refine wpAnyH_take (i := 6) (oi := _) (v := ?_) (by simp only [List.getElem?_toArray, List.getElem?_cons_zero, List.getElem?_cons_succ]; rfl) (by kernel_rfl) (by kernel_rfl) (by kernel_rfl) (fun _ _ _ h => h) (Or.inl ⟨by rfl, ?_⟩) (by assumption) ?_
      rotate_left
      · intro w hSw
        try dsimp only at hSw
        go_simp
        all_goals (with_reducible rfl)
      try simp only [Act.put, List.setIfInBounds_toArray, List.set_cons_zero, List.set_cons_succ]
      refine wpAnyH_take (i := 7) (oi := _) (v := ?_) (by simp only [List.getElem?_toArray, List.getElem?_cons_zero, List.getElem?_cons_succ]; rfl) (by kernel_rfl) (by kernel_rfl) (by kernel_rfl) (fun _ _ _ h => h) (Or.inl ⟨by rfl, ?_⟩) (by assumption) ?_
      rotate_left
      · intro w hSw
        try dsimp only at hSw
        go_simp
        all_goals (with_reducible rfl)
      try simp only [Act.put, List.setIfInBounds_toArray, List.set_cons_zero, List.set_cons_succ]
      refine wpAnyH_take (i := 8) (oi := _) (v := ?_) (by simp only [List.getElem?_toArray, List.getElem?_cons_zero, List.getElem?_cons_succ]; rfl) (by kernel_rfl) (by kernel_rfl) (by kernel_rfl) (fun _ _ _ h => h) (Or.inl ⟨by rfl, ?_⟩) (by assumption) ?_
      rotate_left
      · intro w hSw
        try dsimp only at hSw
        go_simp
        all_goals (with_reducible rfl)
      try simp only [Act.put, List.setIfInBounds_toArray, List.set_cons_zero, List.set_cons_succ]
      refine wpAnyH_take (i := 9) (oi := _) (v := ?_) (by simp only [List.getElem?_toArray, List.getElem?_cons_zero, List.getElem?_cons_succ]; rfl) (by kernel_rfl) (by kernel_rfl) (by kernel_rfl) (fun _ _ _ h => h) (Or.inl ⟨by rfl, ?_⟩) (by assumption) ?_
      rotate_left
      · intro w hSw
        try dsimp only at hSw
        go_simp
        all_goals (with_reducible rfl)
      try simp only [Act.put, List.setIfInBounds_toArray, List.set_cons_zero, List.set_cons_succ]
      refine wpAnyH_ready (rs := [10]) (by kernel_rfl) (by simp) ?_
      refine AllReadyH.cons (o := _) (by simp only [List.getElem?_toArray, List.getElem?_cons_zero, List.getElem?_cons_succ]; rfl) (fun K hK => ?_) ?_
      · skip
        go_simp
        go_at_call 18
        refine (HTG.out _ (And.right (And.right (And.right ‹_ ∧ _ ∧ _ ∧ Fr (fun _ => False) _ _›)))).mono ?_
        rintro e wG1 ⟨rfl, hfG⟩
        refine hK.out _ _ ?_ (fun hHeld => ?_)
        · try dsimp only
          first | assumption | exact HSX.out _ (Fr.refl _ _).drew | exact HSX.out _ (Fr.trans' (And.right (And.right (And.right ‹_ ∧ _ ∧ _ ∧ Fr (fun _ => False) _ _›))) ‹Fr (fun _ => False) _ _›) | exact HSX.out _ (Fr.alloc (And.right (And.right (And.right ‹_ ∧ _ ∧ _ ∧ Fr (fun _ => False) _ _›))) _)
        clear hK K
        try simp only [Act.put, List.setIfInBounds_toArray, List.set_cons_zero, List.set_cons_succ]
        refine wpAnyH_take (i := 11) (oi := _) (v := ?_) (by simp only [List.getElem?_toArray, List.getElem?_cons_zero, List.getElem?_cons_succ]; rfl) (by kernel_rfl) (by kernel_rfl) (by kernel_rfl) (fun _ _ _ h => h) (Or.inl ⟨by rfl, ?_⟩) (by assumption) ?_
        rotate_left
        · intro w hSw
          try dsimp only at hSw
          go_simp
          all_goals (with_reducible rfl)
        try simp only [Act.put, List.setIfInBounds_toArray, List.set_cons_zero, List.set_cons_succ]
        refine wpAnyH_take (i := 12) (oi := _) (v := ?_) (by simp only [List.getElem?_toArray, List.getElem?_cons_zero, List.getElem?_cons_succ]; rfl) (by kernel_rfl) (by kernel_rfl) (by kernel_rfl) (fun _ _ _ h => h) (Or.inl ⟨by rfl, ?_⟩) (by assumption) ?_
        rotate_left
        · intro w hSw
          try dsimp only at hSw
          go_simp
          all_goals (with_reducible rfl)
        try simp only [Act.put, List.setIfInBounds_toArray, List.set_cons_zero, List.set_cons_succ]
        refine wpAnyH_take (i := 13) (oi := _) (v := ?_) (by simp only [List.getElem?_toArray, List.getElem?_cons_zero, List.getElem?_cons_succ]; rfl) (by kernel_rfl) (by kernel_rfl) (by kernel_rfl) (fun _ _ _ h => h) (Or.inl ⟨by rfl, ?_⟩) (by assumption) ?_
        rotate_left
        · intro w hSw
          try dsimp only at hSw
          go_simp
          all_goals (with_reducible rfl)
        try simp only [Act.put, List.setIfInBounds_toArray, List.set_cons_zero, List.set_cons_succ]
        refine wpAnyH_take (i := 14) (oi := _) (v := ?_) (by simp only [List.getElem?_toArray, List.getElem?_cons_zero, List.getElem?_cons_succ]; rfl) (by kernel_rfl) (by kernel_rfl) (by kernel_rfl) (fun _ _ _ h => h) (Or.inl ⟨by rfl, ?_⟩) (by assumption) ?_
        rotate_left
        · intro w hSw
          try dsimp only at hSw
          go_simp
          all_goals (with_reducible rfl)
        try simp only [Act.put, List.setIfInBounds_toArray, List.set_cons_zero, List.set_cons_succ]
        refine wpAnyH_take (i := 15) (oi := _) (v := ?_) (by simp only [List.getElem?_toArray, List.getElem?_cons_zero, List.getElem?_cons_succ]; rfl) (by kernel_rfl) (by kernel_rfl) (by kernel_rfl) (fun _ _ _ h => h) (Or.inl ⟨by rfl, ?_⟩) (by assumption) ?_
        rotate_left
        · intro w hSw
          try dsimp only at hSw
          go_simp
          all_goals (with_reducible rfl)
        try simp only [Act.put, List.setIfInBounds_toArray, List.set_cons_zero, List.set_cons_succ]
        refine wpAnyH_take (i := 16) (oi := _) (v := ?_) (by simp only [List.getElem?_toArray, List.getElem?_cons_zero, List.getElem?_cons_succ]; rfl) (by kernel_rfl) (by kernel_rfl) (by kernel_rfl) (fun _ _ _ h => h) (Or.inl ⟨by rfl, ?_⟩) (by assumption) ?_
        rotate_left
        · intro w hSw
          try dsimp only at hSw
          go_simp
          all_goals (with_reducible rfl)
        try simp only [Act.put, List.setIfInBounds_toArray, List.set_cons_zero, List.set_cons_succ]
        refine wpAnyH_take (i := 17) (oi := _) (v := ?_) (by simp only [List.getElem?_toArray, List.getElem?_cons_zero, List.getElem?_cons_succ]; rfl) (by kernel_rfl) (by kernel_rfl) (by kernel_rfl) (fun _ _ _ h => h) (Or.inl ⟨by rfl, ?_⟩) (by assumption) ?_
        rotate_left
        · intro w hSw
          try dsimp only at hSw
          go_simp
          all_goals (with_reducible rfl)
        try simp only [Act.put, List.setIfInBounds_toArray, List.set_cons_zero, List.set_cons_succ]
        refine wpAnyH_ready (rs := [18]) (by kernel_rfl) (by simp) ?_
        refine AllReadyH.cons (o := _) (by simp only [List.getElem?_toArray, List.getElem?_cons_zero, List.getElem?_cons_succ]; rfl) (fun K hK => ?_) ?_
        · skip
          go_simp
          go_at_call 27
          refine (HVA.out _ (And.right (And.right (And.right ‹_ ∧ _ ∧ _ ∧ Fr (fun _ => False) _ _›)))).mono ?_
          rintro e wG2 ⟨rfl, hfG⟩
          refine hK.out _ _ ?_ (fun hHeld => ?_)
          · try dsimp only
            first | assumption | exact HSX.out _ (Fr.refl _ _).drew | exact HSX.out _ (Fr.trans' (And.right (And.right (And.right ‹_ ∧ _ ∧ _ ∧ Fr (fun _ => False) _ _›))) ‹Fr (fun _ => False) _ _›) | exact HSX.out _ (Fr.alloc (And.right (And.right (And.right ‹_ ∧ _ ∧ _ ∧ Fr (fun _ => False) _ _›))) _)
          clear hK K
          try simp only [Act.put, List.setIfInBounds_toArray, List.set_cons_zero, List.set_cons_succ]
          refine wpAnyH_take (i := 19) (oi := _) (v := ?_) (by simp only [List.getElem?_toArray, List.getElem?_cons_zero, List.getElem?_cons_succ]; rfl) (by kernel_rfl) (by kernel_rfl) (by kernel_rfl) (fun _ _ _ h => h) (Or.inl ⟨by rfl, ?_⟩) (by assumption) ?_
          rotate_left
          · intro w hSw
            try dsimp only at hSw
            go_simp
            all_goals (with_reducible rfl)
          try simp only [Act.put, List.setIfInBounds_toArray, List.set_cons_zero, List.set_cons_succ]
          refine wpAnyH_take (i := 20) (oi := _) (v := ?_) (by simp only [List.getElem?_toArray, List.getElem?_cons_zero, List.getElem?_cons_succ]; rfl) (by kernel_rfl) (by kernel_rfl) (by kernel_rfl) (fun _ _ _ h => h) (Or.inl ⟨by rfl, ?_⟩) (by assumption) ?_
          rotate_left
          · intro w hSw
            try dsimp only at hSw
            go_simp
            all_goals (with_reducible rfl)
          try simp only [Act.put, List.setIfInBounds_toArray, List.set_cons_zero, List.set_cons_succ]
          refine wpAnyH_take (i := 21) (oi := _) (v := ?_) (by simp only [List.getElem?_toArray, List.getElem?_cons_zero, List.getElem?_cons_succ]; rfl) (by kernel_rfl) (by kernel_rfl) (by kernel_rfl) (fun _ _ _ h => h) (Or.inl ⟨by rfl, ?_⟩) (by assumption) ?_
          rotate_left
          · intro w hSw
            try dsimp only at hSw
            go_simp
            all_goals (with_reducible rfl)
          try simp only [Act.put, List.setIfInBounds_toArray, List.set_cons_zero, List.set_cons_succ]
          refine wpAnyH_take (i := 23) (oi := _) (v := ?_) (by simp only [List.getElem?_toArray, List.getElem?_cons_zero, List.getElem?_cons_succ]; rfl) (by kernel_rfl) (by kernel_rfl) (by kernel_rfl) (fun _ _ _ h => h) (Or.inl ⟨by rfl, ?_⟩) (by assumption) ?_
          rotate_left
          · intro w hSw
            try dsimp only at hSw
            go_simp
            all_goals (with_reducible rfl)
          try simp only [Act.put, List.setIfInBounds_toArray, List.set_cons_zero, List.set_cons_succ]
          refine wpAnyH_take (i := 24) (oi := _) (v := ?_) (by simp only [List.getElem?_toArray, List.getElem?_cons_zero, List.getElem?_cons_succ]; rfl) (by kernel_rfl) (by kernel_rfl) (by kernel_rfl) (fun _ _ _ h => h) (Or.inl ⟨by rfl, ?_⟩) (by assumption) ?_
          rotate_left
          · intro w hSw
            try dsimp only at hSw
            go_simp
            all_goals (with_reducible rfl)
          try simp only [Act.put, List.setIfInBounds_toArray, List.set_cons_zero, List.set_cons_succ]
          refine wpAnyH_take (i := 26) (oi := _) (v := ?_) (by simp only [List.getElem?_toArray, List.getElem?_cons_zero, List.getElem?_cons_succ]; rfl) (by kernel_rfl) (by kernel_rfl) (by kernel_rfl) (fun _ _ _ h => h) (Or.inl ⟨by rfl, ?_⟩) (by assumption) ?_
          rotate_left
          · intro w hSw
            try dsimp only at hSw
            go_simp
            all_goals (with_reducible rfl)
          try simp only [Act.put, List.setIfInBounds_toArray, List.set_cons_zero, List.set_cons_succ]
          refine wpAnyH_take (i := 27) (oi := _) (v := ?_) (by simp only [List.getElem?_toArray, List.getElem?_cons_zero, List.getElem?_cons_succ]; rfl) (by kernel_rfl) (by kernel_rfl) (by kernel_rfl) (fun _ _ _ h => h) (Or.inl ⟨by rfl, ?_⟩) (by assumption) ?_
          rotate_left
          · intro w hSw
            try dsimp only at hSw
            go_simp
            all_goals (with_reducible rfl)
          try simp only [Act.put, List.setIfInBounds_toArray, List.set_cons_zero, List.set_cons_succ]
          refine wpAnyH_take (i := 28) (oi := _) (v := ?_) (by simp only [List.getElem?_toArray, List.getElem?_cons_zero, List.getElem?_cons_succ]; rfl) (by kernel_rfl) (by kernel_rfl) (by kernel_rfl) (fun _ _ _ h => h) (Or.inl ⟨by rfl, ?_⟩) (by assumption) ?_
          rotate_left
          · intro w hSw
            try dsimp only at hSw
            go_simp
            all_goals (with_reducible rfl)
          try simp only [Act.put, List.setIfInBounds_toArray, List.set_cons_zero, List.set_cons_succ]
          refine wpAnyH_ready (rs := [22, 29]) (by kernel_rfl) (by simp) ?_
          refine AllReadyH.cons (o := _) (by simp only [List.getElem?_toArray, List.getElem?_cons_zero, List.getElem?_cons_succ]; rfl) (fun K hK => ?_) ?_
          · skip
            go_simp
            refine hK.out _ _ ?_ (fun hHeld => ?_)
            · try dsimp only
              first | assumption | exact HSX.out _ (Fr.refl _ _).drew | exact HSX.out _ (Fr.trans' (And.right (And.right (And.right ‹_ ∧ _ ∧ _ ∧ Fr (fun _ => False) _ _›))) ‹Fr (fun _ => False) _ _›) | exact HSX.out _ (Fr.alloc (And.right (And.right (And.right ‹_ ∧ _ ∧ _ ∧ Fr (fun _ => False) _ _›))) _)
            clear hK K
            try simp only [Act.put, List.setIfInBounds_toArray, List.set_cons_zero, List.set_cons_succ]
            refine wpAnyH_ready (rs := [25, 29]) (by kernel_rfl) (by simp) ?_
            refine AllReadyH.cons (o := _) (by simp only [List.getElem?_toArray, List.getElem?_cons_zero, List.getElem?_cons_succ]; rfl) (fun K hK => ?_) ?_
            · skip
              go_simp
              go_at_call 29
              refine (HLO.out _ _ _ (And.right (And.right (And.right ‹_ ∧ _ ∧ _ ∧ Fr (fun _ => False) _ _›))) (by (repeat' (first | exact row_lit _ _ _ rfl | exact row_lit _ _ _ (by simp) | refine OneRow.alloc ?_ _ | refine OneRow.fr ?_ ‹Fr (fun _ => False) _ _›)))).mono ?_
              rintro e wA ⟨AA, cA, rfl, hRA', hfG⟩
              have hRA : OneRow wA (.slice AA 1 cA) TX := ⟨_, hRA'⟩
              refine hK.out _ _ ?_ (fun hHeld => ?_)
              · try dsimp only
                first | assumption | exact HSX.out _ (Fr.refl _ _).drew | exact HSX.out _ (Fr.trans' (And.right (And.right (And.right ‹_ ∧ _ ∧ _ ∧ Fr (fun _ => False) _ _›))) ‹Fr (fun _ => False) _ _›) | exact HSX.out _ (Fr.alloc (And.right (And.right (And.right ‹_ ∧ _ ∧ _ ∧ Fr (fun _ => False) _ _›))) _)
              clear hK K
              try simp only [Act.put, List.setIfInBounds_toArray, List.set_cons_zero, List.set_cons_succ]
              refine wpAnyH_ready (rs := [29]) (by kernel_rfl) (by simp) ?_
              refine AllReadyH.cons (o := _) (by simp only [List.getElem?_toArray, List.getElem?_cons_zero, List.getElem?_cons_succ]; rfl) (fun K hK => ?_) ?_
              · skip
                go_simp
                refine hK.out _ _ ?_ (fun hHeld => ?_)
                · try dsimp only
                  first | assumption | exact HSX.out _ (Fr.refl _ _).drew | exact HSX.out _ (Fr.trans' (And.right (And.right (And.right ‹_ ∧ _ ∧ _ ∧ Fr (fun _ => False) _ _›))) ‹Fr (fun _ => False) _ _›) | exact HSX.out _ (Fr.alloc (And.right (And.right (And.right ‹_ ∧ _ ∧ _ ∧ Fr (fun _ => False) _ _›))) _)
                clear hK K
                try simp only [Act.put, List.setIfInBounds_toArray, List.set_cons_zero, List.set_cons_succ]
                refine wpAnyH_ready (rs := [30]) (by kernel_rfl) (by simp) ?_
                refine AllReadyH.cons (o := _) (by simp only [List.getElem?_toArray, List.getElem?_cons_zero, List.getElem?_cons_succ]; rfl) (fun K hK => ?_) ?_
                · skip
                  go_simp
                  refine hK.out _ _ ?_ (fun hHeld => ?_)
                  · try dsimp only
                    first | assumption | exact HSX.out _ (Fr.refl _ _).drew | exact HSX.out _ (Fr.trans' (And.right (And.right (And.right ‹_ ∧ _ ∧ _ ∧ Fr (fun _ => False) _ _›))) ‹Fr (fun _ => False) _ _›) | exact HSX.out _ (Fr.alloc (And.right (And.right (And.right ‹_ ∧ _ ∧ _ ∧ Fr (fun _ => False) _ _›))) _)
                  clear hK K
                  try simp only [Act.put, List.setIfInBounds_toArray, List.set_cons_zero, List.set_cons_succ]
                  refine wpAnyH_take (i := 31) (oi := _) (v := ?_) (by simp only [List.getElem?_toArray, List.getElem?_cons_zero, List.getElem?_cons_succ]; rfl) (by kernel_rfl) (by kernel_rfl) (by kernel_rfl) (fun _ _ _ h => h) (Or.inl ⟨by rfl, ?_⟩) (by assumption) ?_
                  rotate_left
                  · intro w hSw
                    try dsimp only at hSw
                    go_simp
                    all_goals (with_reducible rfl)
                  try simp only [Act.put, List.setIfInBounds_toArray, List.set_cons_zero, List.set_cons_succ]
                  refine wpAnyH_ready (rs := [32]) (by kernel_rfl) (by simp) ?_
                  refine AllReadyH.cons (o := _) (by simp only [List.getElem?_toArray, List.getElem?_cons_zero, List.getElem?_cons_succ]; rfl) (fun K hK => ?_) ?_
                  · skip
                    go_simp
                    go_at_call 30
                    refine (HRD.out _).mono ?_
                    rintro e wB ⟨rfl, hfG⟩
                    refine hK.out _ _ ?_ (fun hHeld => ?_)
                    · try dsimp only
                      first | assumption | exact HSX.out _ (Fr.refl _ _).drew | exact HSX.out _ (Fr.trans' (And.right (And.right (And.right ‹_ ∧ _ ∧ _ ∧ Fr (fun _ => False) _ _›))) ‹Fr (fun _ => False) _ _›) | exact HSX.out _ (Fr.alloc (And.right (And.right (And.right ‹_ ∧ _ ∧ _ ∧ Fr (fun _ => False) _ _›))) _)
                    clear hK K
                    try simp only [Act.put, List.setIfInBounds_toArray, List.set_cons_zero, List.set_cons_succ]
                    refine wpAnyH_ready (rs := [33]) (by kernel_rfl) (by simp) ?_
                    refine AllReadyH.cons (o := _) (by simp only [List.getElem?_toArray, List.getElem?_cons_zero, List.getElem?_cons_succ]; rfl) (fun K hK => ?_) ?_
                    · skip
                      go_simp
                      refine hK.out _ _ ?_ (fun hHeld => ?_)
                      · try dsimp only
                        first | assumption | exact HSX.out _ (Fr.refl _ _).drew | exact HSX.out _ (Fr.trans' (And.right (And.right (And.right ‹_ ∧ _ ∧ _ ∧ Fr (fun _ => False) _ _›))) ‹Fr (fun _ => False) _ _›) | exact HSX.out _ (Fr.alloc (And.right (And.right (And.right ‹_ ∧ _ ∧ _ ∧ Fr (fun _ => False) _ _›))) _)
                      clear hK K
                      try simp only [Act.put, List.setIfInBounds_toArray, List.set_cons_zero, List.set_cons_succ]
                      refine wpAnyH_ready (rs := [34]) (by kernel_rfl) (by simp) ?_
                      refine AllReadyH.cons (o := _) (by simp only [List.getElem?_toArray, List.getElem?_cons_zero, List.getElem?_cons_succ]; rfl) (fun K hK => ?_) ?_
                      · skip
                        go_simp
                        go_at_call 28
                        refine (lines_same2 TX _ _ _ _ _ (by (repeat' (first | exact hRA | exact row_lit _ _ _ rfl | exact row_lit _ _ _ (by simp) | refine OneRow.alloc ?_ _ | refine OneRow.fr ?_ ‹Fr (fun _ => False) _ _›))) (by (repeat' (first | exact hRA | exact row_lit _ _ _ rfl | exact row_lit _ _ _ (by simp) | refine OneRow.alloc ?_ _ | refine OneRow.fr ?_ ‹Fr (fun _ => False) _ _›)))).mono ?_
                        rintro e wZ ⟨rfl, hfG⟩
                        refine hK.out _ _ ?_ (fun hHeld => ?_)
                        · try dsimp only
                          first | assumption | exact HSX.out _ (Fr.refl _ _).drew | exact HSX.out _ (Fr.trans' (And.right (And.right (And.right ‹_ ∧ _ ∧ _ ∧ Fr (fun _ => False) _ _›))) ‹Fr (fun _ => False) _ _›) | exact HSX.out _ (Fr.alloc (And.right (And.right (And.right ‹_ ∧ _ ∧ _ ∧ Fr (fun _ => False) _ _›))) _)
                        clear hK K
                        try simp only [Act.put, List.setIfInBounds_toArray, List.set_cons_zero, List.set_cons_succ]
                        refine wpAnyH_take (i := 35) (oi := _) (v := ?_) (by simp only [List.getElem?_toArray, List.getElem?_cons_zero, List.getElem?_cons_succ]; rfl) (by kernel_rfl) (by kernel_rfl) (by kernel_rfl) (fun _ _ _ h => h) (Or.inl ⟨by rfl, ?_⟩) (by assumption) ?_
                        rotate_left
                        · intro w hSw
                          try dsimp only at hSw
                          go_simp
                          all_goals (with_reducible rfl)
                        try simp only [Act.put, List.setIfInBounds_toArray, List.set_cons_zero, List.set_cons_succ]
                        refine wpAnyH_take (i := 36) (oi := _) (v := ?_) (by simp only [List.getElem?_toArray, List.getElem?_cons_zero, List.getElem?_cons_succ]; rfl) (by kernel_rfl) (by kernel_rfl) (by kernel_rfl) (fun _ _ _ h => h) (Or.inl ⟨by rfl, ?_⟩) (by assumption) ?_
                        rotate_left
                        · intro w hSw
                          try dsimp only at hSw
                          go_simp
                          all_goals (with_reducible rfl)
                        try simp only [Act.put, List.setIfInBounds_toArray, List.set_cons_zero, List.set_cons_succ]
                        refine wpAnyH_done (by kernel_rfl) ?_ _
                        refine NoPanic.normal ?_
                        have hFZ : Fr (fun _ => False) w wZ := (HFA.out.trans (And.right (And.right (And.right ‹_ ∧ _ ∧ _ ∧ Fr (fun _ => False) _ _›))) (fun _ _ h => h.elim)).shut (Nat.le_refl _)
                        clear hHeld
                        go_wp2_with fail
                        go_ret
                        exact ⟨rfl, hFZ⟩
                      exact AllReadyH.nil
                    exact AllReadyH.nil
                  exact AllReadyH.nil
                exact AllReadyH.nil
              exact AllReadyH.nil
            refine AllReadyH.cons (o := _) (by simp only [List.getElem?_toArray, List.getElem?_cons_zero, List.getElem?_cons_succ]; rfl) (fun K hK => ?_) ?_
            · skip
              go_simp
              refine hK.out _ _ ?_ (fun hHeld => ?_)
              · try dsimp only
                first | assumption | exact HSX.out _ (Fr.refl _ _).drew | exact HSX.out _ (Fr.trans' (And.right (And.right (And.right ‹_ ∧ _ ∧ _ ∧ Fr (fun _ => False) _ _›))) ‹Fr (fun _ => False) _ _›) | exact HSX.out _ (Fr.alloc (And.right (And.right (And.right ‹_ ∧ _ ∧ _ ∧ Fr (fun _ => False) _ _›))) _)
              clear hK K
              try simp only [Act.put, List.setIfInBounds_toArray, List.set_cons_zero, List.set_cons_succ]
              refine wpAnyH_ready (rs := [25, 30]) (by kernel_rfl) (by simp) ?_
              refine AllReadyH.cons (o := _) (by simp only [List.getElem?_toArray, List.getElem?_cons_zero, List.getElem?_cons_succ]; rfl) (fun K hK => ?_) ?_
              · skip
                go_simp
                go_at_call 29
                refine (HLO.out _ _ _ (And.right (And.right (And.right ‹_ ∧ _ ∧ _ ∧ Fr (fun _ => False) _ _›))) (by (repeat' (first | exact row_lit _ _ _ rfl | exact row_lit _ _ _ (by simp) | refine OneRow.alloc ?_ _ | refine OneRow.fr ?_ ‹Fr (fun _ => False) _ _›)))).mono ?_
                rintro e wA ⟨AA, cA, rfl, hRA', hfG⟩
                have hRA : OneRow wA (.slice AA 1 cA) TX := ⟨_, hRA'⟩
                have hcv3 := fun (g : Nat) (h : g = _) => conv_fr _ _ g k (by omega) hfG h
                refine hK.out _ _ ?_ (fun hHeld => ?_)
                · try dsimp only
                  first | assumption | exact HSX.out _ (Fr.refl _ _).drew | exact HSX.out _ (Fr.trans' (And.right (And.right (And.right ‹_ ∧ _ ∧ _ ∧ Fr (fun _ => False) _ _›))) ‹Fr (fun _ => False) _ _›) | exact HSX.out _ (Fr.alloc (And.right (And.right (And.right ‹_ ∧ _ ∧ _ ∧ Fr (fun _ => False) _ _›))) _)
                clear hK K
                try simp only [Act.put, List.setIfInBounds_toArray, List.set_cons_zero, List.set_cons_succ]
                refine wpAnyH_ready (rs := [30]) (by kernel_rfl) (by simp) ?_
                refine AllReadyH.cons (o := _) (by simp only [List.getElem?_toArray, List.getElem?_cons_zero, List.getElem?_cons_succ]; rfl) (fun K hK => ?_) ?_
                · skip
                  go_simp
                  refine hK.out _ _ ?_ (fun hHeld => ?_)
                  · try dsimp only
                    first | assumption | exact HSX.out _ (Fr.refl _ _).drew | exact HSX.out _ (Fr.trans' (And.right (And.right (And.right ‹_ ∧ _ ∧ _ ∧ Fr (fun _ => False) _ _›))) ‹Fr (fun _ => False) _ _›) | exact HSX.out _ (Fr.alloc (And.right (And.right (And.right ‹_ ∧ _ ∧ _ ∧ Fr (fun _ => False) _ _›))) _)
                  clear hK K
                  try simp only [Act.put, List.setIfInBounds_toArray, List.set_cons_zero, List.set_cons_succ]
                  refine wpAnyH_take (i := 31) (oi := _) (v := ?_) (by simp only [List.getElem?_toArray, List.getElem?_cons_zero, List.getElem?_cons_succ]; rfl) (by kernel_rfl) (by kernel_rfl) (by kernel_rfl) (fun _ _ _ h => h) (Or.inl ⟨by rfl, ?_⟩) (by assumption) ?_
                  rotate_left
                  · intro w hSw
                    try dsimp only at hSw
                    go_simp
                    all_goals (with_reducible rfl)
                  try simp only [Act.put, List.setIfInBounds_toArray, List.set_cons_zero, List.set_cons_succ]
                  refine wpAnyH_ready (rs := [32]) (by kernel_rfl) (by simp) ?_
                  refine AllReadyH.cons (o := _) (by simp only [List.getElem?_toArray, List.getElem?_cons_zero, List.getElem?_cons_succ]; rfl) (fun K hK => ?_) ?_
                  · skip
                    go_simp
                    go_at_call 30
                    refine (HRD.out _).mono ?_
                    rintro e wB ⟨rfl, hfG⟩
                    refine hK.out _ _ ?_ (fun hHeld => ?_)
                    · try dsimp only
                      first | assumption | exact HSX.out _ (Fr.refl _ _).drew | exact HSX.out _ (Fr.trans' (And.right (And.right (And.right ‹_ ∧ _ ∧ _ ∧ Fr (fun _ => False) _ _›))) ‹Fr (fun _ => False) _ _›) | exact HSX.out _ (Fr.alloc (And.right (And.right (And.right ‹_ ∧ _ ∧ _ ∧ Fr (fun _ => False) _ _›))) _)
                    clear hK K
                    try simp only [Act.put, List.setIfInBounds_toArray, List.set_cons_zero, List.set_cons_succ]
                    refine wpAnyH_ready (rs := [33]) (by kernel_rfl) (by simp) ?_
                    refine AllReadyH.cons (o := _) (by simp only [List.getElem?_toArray, List.getElem?_cons_zero, List.getElem?_cons_succ]; rfl) (fun K hK => ?_) ?_
                    · skip
                      go_simp
                      refine hK.out _ _ ?_ (fun hHeld => ?_)
                      · try dsimp only
                        first | assumption | exact HSX.out _ (Fr.refl _ _).drew | exact HSX.out _ (Fr.trans' (And.right (And.right (And.right ‹_ ∧ _ ∧ _ ∧ Fr (fun _ => False) _ _›))) ‹Fr (fun _ => False) _ _›) | exact HSX.out _ (Fr.alloc (And.right (And.right (And.right ‹_ ∧ _ ∧ _ ∧ Fr (fun _ => False) _ _›))) _)
                      clear hK K
                      try simp only [Act.put, List.setIfInBounds_toArray, List.set_cons_zero, List.set_cons_succ]
                      refine wpAnyH_ready (rs := [34]) (by kernel_rfl) (by simp) ?_
                      refine AllReadyH.cons (o := _) (by simp only [List.getElem?_toArray, List.getElem?_cons_zero, List.getElem?_cons_succ]; rfl) (fun K hK => ?_) ?_
                      · skip
                        go_simp
                        go_at_call 28
                        refine (lines_same2 TX _ _ _ _ _ (by (repeat' (first | exact hRA | exact row_lit _ _ _ rfl | exact row_lit _ _ _ (by simp) | refine OneRow.alloc ?_ _ | refine OneRow.fr ?_ ‹Fr (fun _ => False) _ _›))) (by (repeat' (first | exact hRA | exact row_lit _ _ _ rfl | exact row_lit _ _ _ (by simp) | refine OneRow.alloc ?_ _ | refine OneRow.fr ?_ ‹Fr (fun _ => False) _ _›)))).mono ?_
                        rintro e wZ ⟨rfl, hfG⟩
                        refine hK.out _ _ ?_ (fun hHeld => ?_)
                        · try dsimp only
                          first | assumption | exact HSX.out _ (Fr.refl _ _).drew | exact HSX.out _ (Fr.trans' (And.right (And.right (And.right ‹_ ∧ _ ∧ _ ∧ Fr (fun _ => False) _ _›))) ‹Fr (fun _ => False) _ _›) | exact HSX.out _ (Fr.alloc (And.right (And.right (And.right ‹_ ∧ _ ∧ _ ∧ Fr (fun _ => False) _ _›))) _)
                        clear hK K
                        try simp only [Act.put, List.setIfInBounds_toArray, List.set_cons_zero, List.set_cons_succ]
                        refine wpAnyH_take (i := 35) (oi := _) (v := ?_) (by simp only [List.getElem?_toArray, List.getElem?_cons_zero, List.getElem?_cons_succ]; rfl) (by kernel_rfl) (by kernel_rfl) (by kernel_rfl) (fun _ _ _ h => h) (Or.inl ⟨by rfl, ?_⟩) (by assumption) ?_
                        rotate_left
                        · intro w hSw
                          try dsimp only at hSw
                          go_simp
                          all_goals (with_reducible rfl)
                        try simp only [Act.put, List.setIfInBounds_toArray, List.set_cons_zero, List.set_cons_succ]
                        refine wpAnyH_take (i := 36) (oi := _) (v := ?_) (by simp only [List.getElem?_toArray, List.getElem?_cons_zero, List.getElem?_cons_succ]; rfl) (by kernel_rfl) (by kernel_rfl) (by kernel_rfl) (fun _ _ _ h => h) (Or.inl ⟨by rfl, ?_⟩) (by assumption) ?_
                        rotate_left
                        · intro w hSw
                          try dsimp only at hSw
                          go_simp
                          all_goals (with_reducible rfl)
                        try simp only [Act.put, List.setIfInBounds_toArray, List.set_cons_zero, List.set_cons_succ]
                        refine wpAnyH_done (by kernel_rfl) ?_ _
                        refine NoPanic.normal ?_
                        have hFZ : Fr (fun _ => False) w wZ := (HFA.out.trans (And.right (And.right (And.right ‹_ ∧ _ ∧ _ ∧ Fr (fun _ => False) _ _›))) (fun _ _ h => h.elim)).shut (Nat.le_refl _)
                        clear hHeld
                        go_wp2_with fail
                        go_ret
                        exact ⟨rfl, hFZ⟩
                      exact AllReadyH.nil
                    exact AllReadyH.nil
                  exact AllReadyH.nil
                exact AllReadyH.nil
              refine AllReadyH.cons (o := _) (by simp only [List.getElem?_toArray, List.getElem?_cons_zero, List.getElem?_cons_succ]; rfl) (fun K hK => ?_) ?_
              · skip
                go_simp
                refine hK.out _ _ ?_ (fun hHeld => ?_)
                · try dsimp only
                  first | assumption | exact HSX.out _ (Fr.refl _ _).drew | exact HSX.out _ (Fr.trans' (And.right (And.right (And.right ‹_ ∧ _ ∧ _ ∧ Fr (fun _ => False) _ _›))) ‹Fr (fun _ => False) _ _›) | exact HSX.out _ (Fr.alloc (And.right (And.right (And.right ‹_ ∧ _ ∧ _ ∧ Fr (fun _ => False) _ _›))) _)
                clear hK K
                try simp only [Act.put, List.setIfInBounds_toArray, List.set_cons_zero, List.set_cons_succ]
                refine wpAnyH_take (i := 31) (oi := _) (v := ?_) (by simp only [List.getElem?_toArray, List.getElem?_cons_zero, List.getElem?_cons_succ]; rfl) (by kernel_rfl) (by kernel_rfl) (by kernel_rfl) (fun _ _ _ h => h) (Or.inl ⟨by rfl, ?_⟩) (by assumption) ?_
                rotate_left
                · intro w hSw
                  try dsimp only at hSw
                  go_simp
                  all_goals (with_reducible rfl)
                try simp only [Act.put, List.setIfInBounds_toArray, List.set_cons_zero, List.set_cons_succ]
                refine wpAnyH_ready (rs := [25]) (by kernel_rfl) (by simp) ?_
                refine AllReadyH.cons (o := _) (by simp only [List.getElem?_toArray, List.getElem?_cons_zero, List.getElem?_cons_succ]; rfl) (fun K hK => ?_) ?_
                · skip
                  go_simp
                  go_at_call 29
                  refine (HLO.out _ _ _ (And.right (And.right (And.right ‹_ ∧ _ ∧ _ ∧ Fr (fun _ => False) _ _›))) (by (repeat' (first | exact row_lit _ _ _ rfl | exact row_lit _ _ _ (by simp) | refine OneRow.alloc ?_ _ | refine OneRow.fr ?_ ‹Fr (fun _ => False) _ _›)))).mono ?_
                  rintro e wA ⟨AA, cA, rfl, hRA', hfG⟩
                  have hRA : OneRow wA (.slice AA 1 cA) TX := ⟨_, hRA'⟩
                  refine hK.out _ _ ?_ (fun hHeld => ?_)
                  · try dsimp only
                    first | assumption | exact HSX.out _ (Fr.refl _ _).drew | exact HSX.out _ (Fr.trans' (And.right (And.right (And.right ‹_ ∧ _ ∧ _ ∧ Fr (fun _ => False) _ _›))) ‹Fr (fun _ => False) _ _›) | exact HSX.out _ (Fr.alloc (And.right (And.right (And.right ‹_ ∧ _ ∧ _ ∧ Fr (fun _ => False) _ _›))) _)
                  clear hK K
                  try simp only [Act.put, List.setIfInBounds_toArray, List.set_cons_zero, List.set_cons_succ]
                  refine wpAnyH_ready (rs := [32]) (by kernel_rfl) (by simp) ?_
                  refine AllReadyH.cons (o := _) (by simp only [List.getElem?_toArray, List.getElem?_cons_zero, List.getElem?_cons_succ]; rfl) (fun K hK => ?_) ?_
                  · skip
                    go_simp
                    go_at_call 30
                    refine (HRD.out _).mono ?_
                    rintro e wB ⟨rfl, hfG⟩
                    refine hK.out _ _ ?_ (fun hHeld => ?_)
                    · try dsimp only
                      first | assumption | exact HSX.out _ (Fr.refl _ _).drew | exact HSX.out _ (Fr.trans' (And.right (And.right (And.right ‹_ ∧ _ ∧ _ ∧ Fr (fun _ => False) _ _›))) ‹Fr (fun _ => False) _ _›) | exact HSX.out _ (Fr.alloc (And.right (And.right (And.right ‹_ ∧ _ ∧ _ ∧ Fr (fun _ => False) _ _›))) _)
                    clear hK K
                    try simp only [Act.put, List.setIfInBounds_toArray, List.set_cons_zero, List.set_cons_succ]
                    refine wpAnyH_ready (rs := [33]) (by kernel_rfl) (by simp) ?_
                    refine AllReadyH.cons (o := _) (by simp only [List.getElem?_toArray, List.getElem?_cons_zero, List.getElem?_cons_succ]; rfl) (fun K hK => ?_) ?_
                    · skip
                      go_simp
                      refine hK.out _ _ ?_ (fun hHeld => ?_)
                      · try dsimp only
                        first | assumption | exact HSX.out _ (Fr.refl _ _).drew | exact HSX.out _ (Fr.trans' (And.right (And.right (And.right ‹_ ∧ _ ∧ _ ∧ Fr (fun _ => False) _ _›))) ‹Fr (fun _ => False) _ _›) | exact HSX.out _ (Fr.alloc (And.right (And.right (And.right ‹_ ∧ _ ∧ _ ∧ Fr (fun _ => False) _ _›))) _)
                      clear hK K
                      try simp only [Act.put, List.setIfInBounds_toArray, List.set_cons_zero, List.set_cons_succ]
                      refine wpAnyH_ready (rs := [34]) (by kernel_rfl) (by simp) ?_
                      refine AllReadyH.cons (o := _) (by simp only [List.getElem?_toArray, List.getElem?_cons_zero, List.getElem?_cons_succ]; rfl) (fun K hK => ?_) ?_
                      · skip
                        go_simp
                        go_at_call 28
                        refine (lines_same2 TX _ _ _ _ _ (by (repeat' (first | exact hRA | exact row_lit _ _ _ rfl | exact row_lit _ _ _ (by simp) | refine OneRow.alloc ?_ _ | refine OneRow.fr ?_ ‹Fr (fun _ => False) _ _›))) (by (repeat' (first | exact hRA | exact row_lit _ _ _ rfl | exact row_lit _ _ _ (by simp) | refine OneRow.alloc ?_ _ | refine OneRow.fr ?_ ‹Fr (fun _ => False) _ _›)))).mono ?_
                        rintro e wZ ⟨rfl, hfG⟩
                        refine hK.out _ _ ?_ (fun hHeld => ?_)
                        · try dsimp only
                          first | assumption | exact HSX.out _ (Fr.refl _ _).drew | exact HSX.out _ (Fr.trans' (And.right (And.right (And.right ‹_ ∧ _ ∧ _ ∧ Fr (fun _ => False) _ _›))) ‹Fr (fun _ => False) _ _›) | exact HSX.out _ (Fr.alloc (And.right (And.right (And.right ‹_ ∧ _ ∧ _ ∧ Fr (fun _ => False) _ _›))) _)
                        clear hK K
                        try simp only [Act.put, List.setIfInBounds_toArray, List.set_cons_zero, List.set_cons_succ]
                        refine wpAnyH_take (i := 35) (oi := _) (v := ?_) (by simp only [List.getElem?_toArray, List.getElem?_cons_zero, List.getElem?_cons_succ]; rfl) (by kernel_rfl) (by kernel_rfl) (by kernel_rfl) (fun _ _ _ h => h) (Or.inl ⟨by rfl, ?_⟩) (by assumption) ?_
                        rotate_left
                        · intro w hSw
                          try dsimp only at hSw
                          go_simp
                          all_goals (with_reducible rfl)
                        try simp only [Act.put, List.setIfInBounds_toArray, List.set_cons_zero, List.set_cons_succ]
                        refine wpAnyH_take (i := 36) (oi := _) (v := ?_) (by simp only [List.getElem?_toArray, List.getElem?_cons_zero, List.getElem?_cons_succ]; rfl) (by kernel_rfl) (by kernel_rfl) (by kernel_rfl) (fun _ _ _ h => h) (Or.inl ⟨by rfl, ?_⟩) (by assumption) ?_
                        rotate_left
                        · intro w hSw
                          try dsimp only at hSw
                          go_simp
                          all_goals (with_reducible rfl)
                        try simp only [Act.put, List.setIfInBounds_toArray, List.set_cons_zero, List.set_cons_succ]
                        refine wpAnyH_done (by kernel_rfl) ?_ _
                        refine NoPanic.normal ?_
                        have hFZ : Fr (fun _ => False) w wZ := (HFA.out.trans (And.right (And.right (And.right ‹_ ∧ _ ∧ _ ∧ Fr (fun _ => False) _ _›))) (fun _ _ h => h.elim)).shut (Nat.le_refl _)
                        clear hHeld
                        go_wp2_with fail
                        go_ret
                        exact ⟨rfl, hFZ⟩
                      exact AllReadyH.nil
                    exact AllReadyH.nil
                  exact AllReadyH.nil
                exact AllReadyH.nil
              exact AllReadyH.nil
            exact AllReadyH.nil
          refine AllReadyH.cons (o := _) (by simp only [List.getElem?_toArray, List.getElem?_cons_zero, List.getElem?_cons_succ]; rfl) (fun K hK => ?_) ?_
          · skip
            go_simp
            refine hK.out _ _ ?_ (fun hHeld => ?_)
            · try dsimp only
              first | assumption | exact HSX.out _ (Fr.refl _ _).drew | exact HSX.out _ (Fr.trans' (And.right (And.right (And.right ‹_ ∧ _ ∧ _ ∧ Fr (fun _ => False) _ _›))) ‹Fr (fun _ => False) _ _›) | exact HSX.out _ (Fr.alloc (And.right (And.right (And.right ‹_ ∧ _ ∧ _ ∧ Fr (fun _ => False) _ _›))) _)
            clear hK K
            try simp only [Act.put, List.setIfInBounds_toArray, List.set_cons_zero, List.set_cons_succ]
            refine wpAnyH_ready (rs := [22, 30]) (by kernel_rfl) (by simp) ?_
            refine AllReadyH.cons (o := _) (by simp only [List.getElem?_toArray, List.getElem?_cons_zero, List.getElem?_cons_succ]; rfl) (fun K hK => ?_) ?_
            · skip
              go_simp
              refine hK.out _ _ ?_ (fun hHeld => ?_)
              · try dsimp only
                first | assumption | exact HSX.out _ (Fr.refl _ _).drew | exact HSX.out _ (Fr.trans' (And.right (And.right (And.right ‹_ ∧ _ ∧ _ ∧ Fr (fun _ => False) _ _›))) ‹Fr (fun _ => False) _ _›) | exact HSX.out _ (Fr.alloc (And.right (And.right (And.right ‹_ ∧ _ ∧ _ ∧ Fr (fun _ => False) _ _›))) _)
              clear hK K
              try simp only [Act.put, List.setIfInBounds_toArray, List.set_cons_zero, List.set_cons_succ]
              refine wpAnyH_ready (rs := [25, 30]) (by kernel_rfl) (by simp) ?_
              refine AllReadyH.cons (o := _) (by simp only [List.getElem?_toArray, List.getElem?_cons_zero, List.getElem?_cons_succ]; rfl) (fun K hK => ?_) ?_
              · skip
                go_simp
                go_at_call 29
                refine (HLO.out _ _ _ (And.right (And.right (And.right ‹_ ∧ _ ∧ _ ∧ Fr (fun _ => False) _ _›))) (by (repeat' (first | exact row_lit _ _ _ rfl | exact row_lit _ _ _ (by simp) | refine OneRow.alloc ?_ _ | refine OneRow.fr ?_ ‹Fr (fun _ => False) _ _›)))).mono ?_
                rintro e wA ⟨AA, cA, rfl, hRA', hfG⟩
                have hRA : OneRow wA (.slice AA 1 cA) TX := ⟨_, hRA'⟩
                have hcv3 := fun (g : Nat) (h : g = _) => conv_fr wG2 _ g k (by omega) (((Fr.refl _ (wG2.alloc (.cells #[.int .u8 (48 + (k : Int))] 5))).alloc _).trans' hfG) h
                refine hK.out _ _ ?_ (fun hHeld => ?_)
                · try dsimp only
                  first | assumption | exact HSX.out _ (Fr.refl _ _).drew | exact HSX.out _ (Fr.trans' (And.right (And.right (And.right ‹_ ∧ _ ∧ _ ∧ Fr (fun _ => False) _ _›))) ‹Fr (fun _ => False) _ _›) | exact HSX.out _ (Fr.alloc (And.right (And.right (And.right ‹_ ∧ _ ∧ _ ∧ Fr (fun _ => False) _ _›))) _)
                clear hK K
                try simp only [Act.put, List.setIfInBounds_toArray, List.set_cons_zero, List.set_cons_succ]
                refine wpAnyH_ready (rs := [30]) (by kernel_rfl) (by simp) ?_
                refine AllReadyH.cons (o := _) (by simp only [List.getElem?_toArray, List.getElem?_cons_zero, List.getElem?_cons_succ]; rfl) (fun K hK => ?_) ?_
                · skip
                  go_simp
                  refine hK.out _ _ ?_ (fun hHeld => ?_)
                  · try dsimp only
                    first | assumption | exact HSX.out _ (Fr.refl _ _).drew | exact HSX.out _ (Fr.trans' (And.right (And.right (And.right ‹_ ∧ _ ∧ _ ∧ Fr (fun _ => False) _ _›))) ‹Fr (fun _ => False) _ _›) | exact HSX.out _ (Fr.alloc (And.right (And.right (And.right ‹_ ∧ _ ∧ _ ∧ Fr (fun _ => False) _ _›))) _)
                  clear hK K
                  try simp only [Act.put, List.setIfInBounds_toArray, List.set_cons_zero, List.set_cons_succ]
                  refine wpAnyH_take (i := 31) (oi := _) (v := ?_) (by simp only [List.getElem?_toArray, List.getElem?_cons_zero, List.getElem?_cons_succ]; rfl) (by kernel_rfl) (by kernel_rfl) (by kernel_rfl) (fun _ _ _ h => h) (Or.inl ⟨by rfl, ?_⟩) (by assumption) ?_
                  rotate_left
                  · intro w hSw
                    try dsimp only at hSw
                    go_simp
                    all_goals (with_reducible rfl)
                  try simp only [Act.put, List.setIfInBounds_toArray, List.set_cons_zero, List.set_cons_succ]
                  refine wpAnyH_ready (rs := [32]) (by kernel_rfl) (by simp) ?_
                  refine AllReadyH.cons (o := _) (by simp only [List.getElem?_toArray, List.getElem?_cons_zero, List.getElem?_cons_succ]; rfl) (fun K hK => ?_) ?_
                  · skip
                    go_simp
                    go_at_call 30
                    refine (HRD.out _).mono ?_
                    rintro e wB ⟨rfl, hfG⟩
                    refine hK.out _ _ ?_ (fun hHeld => ?_)
                    · try dsimp only
                      first | assumption | exact HSX.out _ (Fr.refl _ _).drew | exact HSX.out _ (Fr.trans' (And.right (And.right (And.right ‹_ ∧ _ ∧ _ ∧ Fr (fun _ => False) _ _›))) ‹Fr (fun _ => False) _ _›) | exact HSX.out _ (Fr.alloc (And.right (And.right (And.right ‹_ ∧ _ ∧ _ ∧ Fr (fun _ => False) _ _›))) _)
                    clear hK K
                    try simp only [Act.put, List.setIfInBounds_toArray, List.set_cons_zero, List.set_cons_succ]
                    refine wpAnyH_ready (rs := [33]) (by kernel_rfl) (by simp) ?_
                    refine AllReadyH.cons (o := _) (by simp only [List.getElem?_toArray, List.getElem?_cons_zero, List.getElem?_cons_succ]; rfl) (fun K hK => ?_) ?_
                    · skip
                      go_simp
                      refine hK.out _ _ ?_ (fun hHeld => ?_)
                      · try dsimp only
                        first | assumption | exact HSX.out _ (Fr.refl _ _).drew | exact HSX.out _ (Fr.trans' (And.right (And.right (And.right ‹_ ∧ _ ∧ _ ∧ Fr (fun _ => False) _ _›))) ‹Fr (fun _ => False) _ _›) | exact HSX.out _ (Fr.alloc (And.right (And.right (And.right ‹_ ∧ _ ∧ _ ∧ Fr (fun _ => False) _ _›))) _)
                      clear hK K
                      try simp only [Act.put, List.setIfInBounds_toArray, List.set_cons_zero, List.set_cons_succ]
                      refine wpAnyH_ready (rs := [34]) (by kernel_rfl) (by simp) ?_
                      refine AllReadyH.cons (o := _) (by simp only [List.getElem?_toArray, List.getElem?_cons_zero, List.getElem?_cons_succ]; rfl) (fun K hK => ?_) ?_
                      · skip
                        go_simp
                        go_at_call 28
                        refine (lines_same2 TX _ _ _ _ _ (by (repeat' (first | exact hRA | exact row_lit _ _ _ rfl | exact row_lit _ _ _ (by simp) | refine OneRow.alloc ?_ _ | refine OneRow.fr ?_ ‹Fr (fun _ => False) _ _›))) (by (repeat' (first | exact hRA | exact row_lit _ _ _ rfl | exact row_lit _ _ _ (by simp) | refine OneRow.alloc ?_ _ | refine OneRow.fr ?_ ‹Fr (fun _ => False) _ _›)))).mono ?_
                        rintro e wZ ⟨rfl, hfG⟩
                        refine hK.out _ _ ?_ (fun hHeld => ?_)
                        · try dsimp only
                          first | assumption | exact HSX.out _ (Fr.refl _ _).drew | exact HSX.out _ (Fr.trans' (And.right (And.right (And.right ‹_ ∧ _ ∧ _ ∧ Fr (fun _ => False) _ _›))) ‹Fr (fun _ => False) _ _›) | exact HSX.out _ (Fr.alloc (And.right (And.right (And.right ‹_ ∧ _ ∧ _ ∧ Fr (fun _ => False) _ _›))) _)
                        clear hK K
                        try simp only [Act.put, List.setIfInBounds_toArray, List.set_cons_zero, List.set_cons_succ]
                        refine wpAnyH_take (i := 35) (oi := _) (v := ?_) (by simp only [List.getElem?_toArray, List.getElem?_cons_zero, List.getElem?_cons_succ]; rfl) (by kernel_rfl) (by kernel_rfl) (by kernel_rfl) (fun _ _ _ h => h) (Or.inl ⟨by rfl, ?_⟩) (by assumption) ?_
                        rotate_left
                        · intro w hSw
                          try dsimp only at hSw
                          go_simp
                          all_goals (with_reducible rfl)
                        try simp only [Act.put, List.setIfInBounds_toArray, List.set_cons_zero, List.set_cons_succ]
                        refine wpAnyH_take (i := 36) (oi := _) (v := ?_) (by simp only [List.getElem?_toArray, List.getElem?_cons_zero, List.getElem?_cons_succ]; rfl) (by kernel_rfl) (by kernel_rfl) (by kernel_rfl) (fun _ _ _ h => h) (Or.inl ⟨by rfl, ?_⟩) (by assumption) ?_
                        rotate_left
                        · intro w hSw
                          try dsimp only at hSw
                          go_simp
                          all_goals (with_reducible rfl)
                        try simp only [Act.put, List.setIfInBounds_toArray, List.set_cons_zero, List.set_cons_succ]
                        refine wpAnyH_done (by kernel_rfl) ?_ _
                        refine NoPanic.normal ?_
                        have hFZ : Fr (fun _ => False) w wZ := (HFA.out.trans (And.right (And.right (And.right ‹_ ∧ _ ∧ _ ∧ Fr (fun _ => False) _ _›))) (fun _ _ h => h.elim)).shut (Nat.le_refl _)
                        clear hHeld
                        go_wp2_with fail
                        go_ret
                        exact ⟨rfl, hFZ⟩
                      exact AllReadyH.nil
                    exact AllReadyH.nil
                  exact AllReadyH.nil
                exact AllReadyH.nil
              refine AllReadyH.cons (o := _) (by simp only [List.getElem?_toArray, List.getElem?_cons_zero, List.getElem?_cons_succ]; rfl) (fun K hK => ?_) ?_
              · skip
                go_simp
                refine hK.out _ _ ?_ (fun hHeld => ?_)
                · try dsimp only
                  first | assumption | exact HSX.out _ (Fr.refl _ _).drew | exact HSX.out _ (Fr.trans' (And.right (And.right (And.right ‹_ ∧ _ ∧ _ ∧ Fr (fun _ => False) _ _›))) ‹Fr (fun _ => False) _ _›) | exact HSX.out _ (Fr.alloc (And.right (And.right (And.right ‹_ ∧ _ ∧ _ ∧ Fr (fun _ => False) _ _›))) _)
                clear hK K
                try simp only [Act.put, List.setIfInBounds_toArray, List.set_cons_zero, List.set_cons_succ]
                refine wpAnyH_take (i := 31) (oi := _) (v := ?_) (by simp only [List.getElem?_toArray, List.getElem?_cons_zero, List.getElem?_cons_succ]; rfl) (by kernel_rfl) (by kernel_rfl) (by kernel_rfl) (fun _ _ _ h => h) (Or.inl ⟨by rfl, ?_⟩) (by assumption) ?_
                rotate_left
                · intro w hSw
                  try dsimp only at hSw
                  go_simp
                  all_goals (with_reducible rfl)
                try simp only [Act.put, List.setIfInBounds_toArray, List.set_cons_zero, List.set_cons_succ]
                refine wpAnyH_ready (rs := [25]) (by kernel_rfl) (by simp) ?_
                refine AllReadyH.cons (o := _) (by simp only [List.getElem?_toArray, List.getElem?_cons_zero, List.getElem?_cons_succ]; rfl) (fun K hK => ?_) ?_
                · skip
                  go_simp
                  go_at_call 29
                  refine (HLO.out _ _ _ (And.right (And.right (And.right ‹_ ∧ _ ∧ _ ∧ Fr (fun _ => False) _ _›))) (by (repeat' (first | exact row_lit _ _ _ rfl | exact row_lit _ _ _ (by simp) | refine OneRow.alloc ?_ _ | refine OneRow.fr ?_ ‹Fr (fun _ => False) _ _›)))).mono ?_
                  rintro e wA ⟨AA, cA, rfl, hRA', hfG⟩
                  have hRA : OneRow wA (.slice AA 1 cA) TX := ⟨_, hRA'⟩
                  refine hK.out _ _ ?_ (fun hHeld => ?_)
                  · try dsimp only
                    first | assumption | exact HSX.out _ (Fr.refl _ _).drew | exact HSX.out _ (Fr.trans' (And.right (And.right (And.right ‹_ ∧ _ ∧ _ ∧ Fr (fun _ => False) _ _›))) ‹Fr (fun _ => False) _ _›) | exact HSX.out _ (Fr.alloc (And.right (And.right (And.right ‹_ ∧ _ ∧ _ ∧ Fr (fun _ => False) _ _›))) _)
                  clear hK K
                  try simp only [Act.put, List.setIfInBounds_toArray, List.set_cons_zero, List.set_cons_succ]
                  refine wpAnyH_ready (rs := [32]) (by kernel_rfl) (by simp) ?_
                  refine AllReadyH.cons (o := _) (by simp only [List.getElem?_toArray, List.getElem?_cons_zero, List.getElem?_cons_succ]; rfl) (fun K hK => ?_) ?_
                  · skip
                    go_simp
                    go_at_call 30
                    refine (HRD.out _).mono ?_
                    rintro e wB ⟨rfl, hfG⟩
                    refine hK.out _ _ ?_ (fun hHeld => ?_)
                    · try dsimp only
                      first | assumption | exact HSX.out _ (Fr.refl _ _).drew | exact HSX.out _ (Fr.trans' (And.right (And.right (And.right ‹_ ∧ _ ∧ _ ∧ Fr (fun _ => False) _ _›))) ‹Fr (fun _ => False) _ _›) | exact HSX.out _ (Fr.alloc (And.right (And.right (And.right ‹_ ∧ _ ∧ _ ∧ Fr (fun _ => False) _ _›))) _)
                    clear hK K
                    try simp only [Act.put, List.setIfInBounds_toArray, List.set_cons_zero, List.set_cons_succ]
                    refine wpAnyH_ready (rs := [33]) (by kernel_rfl) (by simp) ?_
                    refine AllReadyH.cons (o := _) (by simp only [List.getElem?_toArray, List.getElem?_cons_zero, List.getElem?_cons_succ]; rfl) (fun K hK => ?_) ?_
                    · skip
                      go_simp
                      refine hK.out _ _ ?_ (fun hHeld => ?_)
                      · try dsimp only
                        first | assumption | exact HSX.out _ (Fr.refl _ _).drew | exact HSX.out _ (Fr.trans' (And.right (And.right (And.right ‹_ ∧ _ ∧ _ ∧ Fr (fun _ => False) _ _›))) ‹Fr (fun _ => False) _ _›) | exact HSX.out _ (Fr.alloc (And.right (And.right (And.right ‹_ ∧ _ ∧ _ ∧ Fr (fun _ => False) _ _›))) _)
                      clear hK K
                      try simp only [Act.put, List.setIfInBounds_toArray, List.set_cons_zero, List.set_cons_succ]
                      refine wpAnyH_ready (rs := [34]) (by kernel_rfl) (by simp) ?_
                      refine AllReadyH.cons (o := _) (by simp only [List.getElem?_toArray, List.getElem?_cons_zero, List.getElem?_cons_succ]; rfl) (fun K hK => ?_) ?_
                      · skip
                        go_simp
                        go_at_call 28
                        refine (lines_same2 TX _ _ _ _ _ (by (repeat' (first | exact hRA | exact row_lit _ _ _ rfl | exact row_lit _ _ _ (by simp) | refine OneRow.alloc ?_ _ | refine OneRow.fr ?_ ‹Fr (fun _ => False) _ _›))) (by (repeat' (first | exact hRA | exact row_lit _ _ _ rfl | exact row_lit _ _ _ (by simp) | refine OneRow.alloc ?_ _ | refine OneRow.fr ?_ ‹Fr (fun _ => False) _ _›)))).mono ?_
                        rintro e wZ ⟨rfl, hfG⟩
                        refine hK.out _ _ ?_ (fun hHeld => ?_)
                        · try dsimp only
                          first | assumption | exact HSX.out _ (Fr.refl _ _).drew | exact HSX.out _ (Fr.trans' (And.right (And.right (And.right ‹_ ∧ _ ∧ _ ∧ Fr (fun _ => False) _ _›))) ‹Fr (fun _ => False) _ _›) | exact HSX.out _ (Fr.alloc (And.right (And.right (And.right ‹_ ∧ _ ∧ _ ∧ Fr (fun _ => False) _ _›))) _)
                        clear hK K
                        try simp only [Act.put, List.setIfInBounds_toArray, List.set_cons_zero, List.set_cons_succ]
                        refine wpAnyH_take (i := 35) (oi := _) (v := ?_) (by simp only [List.getElem?_toArray, List.getElem?_cons_zero, List.getElem?_cons_succ]; rfl) (by kernel_rfl) (by kernel_rfl) (by kernel_rfl) (fun _ _ _ h => h) (Or.inl ⟨by rfl, ?_⟩) (by assumption) ?_
                        rotate_left
                        · intro w hSw
                          try dsimp only at hSw
                          go_simp
                          all_goals (with_reducible rfl)
                        try simp only [Act.put, List.setIfInBounds_toArray, List.set_cons_zero, List.set_cons_succ]
                        refine wpAnyH_take (i := 36) (oi := _) (v := ?_) (by simp only [List.getElem?_toArray, List.getElem?_cons_zero, List.getElem?_cons_succ]; rfl) (by kernel_rfl) (by kernel_rfl) (by kernel_rfl) (fun _ _ _ h => h) (Or.inl ⟨by rfl, ?_⟩) (by assumption) ?_
                        rotate_left
                        · intro w hSw
                          try dsimp only at hSw
                          go_simp
                          all_goals (with_reducible rfl)
                        try simp only [Act.put, List.setIfInBounds_toArray, List.set_cons_zero, List.set_cons_succ]
                        refine wpAnyH_done (by kernel_rfl) ?_ _
                        refine NoPanic.normal ?_
                        have hFZ : Fr (fun _ => False) w wZ := (HFA.out.trans (And.right (And.right (And.right ‹_ ∧ _ ∧ _ ∧ Fr (fun _ => False) _ _›))) (fun _ _ h => h.elim)).shut (Nat.le_refl _)
                        clear hHeld
                        go_wp2_with fail
                        go_ret
                        exact ⟨rfl, hFZ⟩
                      exact AllReadyH.nil
                    exact AllReadyH.nil
                  exact AllReadyH.nil
                exact AllReadyH.nil
              exact AllReadyH.nil
            refine AllReadyH.cons (o := _) (by simp only [List.getElem?_toArray, List.getElem?_cons_zero, List.getElem?_cons_succ]; rfl) (fun K hK => ?_) ?_
            · skip
              go_simp
              refine hK.out _ _ ?_ (fun hHeld => ?_)
              · try dsimp only
                first | assumption | exact HSX.out _ (Fr.refl _ _).drew | exact HSX.out _ (Fr.trans' (And.right (And.right (And.right ‹_ ∧ _ ∧ _ ∧ Fr (fun _ => False) _ _›))) ‹Fr (fun _ => False) _ _›) | exact HSX.out _ (Fr.alloc (And.right (And.right (And.right ‹_ ∧ _ ∧ _ ∧ Fr (fun _ => False) _ _›))) _)
              clear hK K
              try simp only [Act.put, List.setIfInBounds_toArray, List.set_cons_zero, List.set_cons_succ]
              refine wpAnyH_take (i := 31) (oi := _) (v := ?_) (by simp only [List.getElem?_toArray, List.getElem?_cons_zero, List.getElem?_cons_succ]; rfl) (by kernel_rfl) (by kernel_rfl) (by kernel_rfl) (fun _ _ _ h => h) (Or.inl ⟨by rfl, ?_⟩) (by assumption) ?_
              rotate_left
              · intro w hSw
                try dsimp only at hSw
                go_simp
                all_goals (with_reducible rfl)
              try simp only [Act.put, List.setIfInBounds_toArray, List.set_cons_zero, List.set_cons_succ]
              refine wpAnyH_ready (rs := [22]) (by kernel_rfl) (by simp) ?_
              refine AllReadyH.cons (o := _) (by simp only [List.getElem?_toArray, List.getElem?_cons_zero, List.getElem?_cons_succ]; rfl) (fun K hK => ?_) ?_
              · skip
                go_simp
                refine hK.out _ _ ?_ (fun hHeld => ?_)
                · try dsimp only
                  first | assumption | exact HSX.out _ (Fr.refl _ _).drew | exact HSX.out _ (Fr.trans' (And.right (And.right (And.right ‹_ ∧ _ ∧ _ ∧ Fr (fun _ => False) _ _›))) ‹Fr (fun _ => False) _ _›) | exact HSX.out _ (Fr.alloc (And.right (And.right (And.right ‹_ ∧ _ ∧ _ ∧ Fr (fun _ => False) _ _›))) _)
                clear hK K
                try simp only [Act.put, List.setIfInBounds_toArray, List.set_cons_zero, List.set_cons_succ]
                refine wpAnyH_ready (rs := [25]) (by kernel_rfl) (by simp) ?_
                refine AllReadyH.cons (o := _) (by simp only [List.getElem?_toArray, List.getElem?_cons_zero, List.getElem?_cons_succ]; rfl) (fun K hK => ?_) ?_
                · skip
                  go_simp
                  go_at_call 29
                  refine (HLO.out _ _ _ (And.right (And.right (And.right ‹_ ∧ _ ∧ _ ∧ Fr (fun _ => False) _ _›))) (by (repeat' (first | exact row_lit _ _ _ rfl | exact row_lit _ _ _ (by simp) | refine OneRow.alloc ?_ _ | refine OneRow.fr ?_ ‹Fr (fun _ => False) _ _›)))).mono ?_
                  rintro e wA ⟨AA, cA, rfl, hRA', hfG⟩
                  have hRA : OneRow wA (.slice AA 1 cA) TX := ⟨_, hRA'⟩
                  refine hK.out _ _ ?_ (fun hHeld => ?_)
                  · try dsimp only
                    first | assumption | exact HSX.out _ (Fr.refl _ _).drew | exact HSX.out _ (Fr.trans' (And.right (And.right (And.right ‹_ ∧ _ ∧ _ ∧ Fr (fun _ => False) _ _›))) ‹Fr (fun _ => False) _ _›) | exact HSX.out _ (Fr.alloc (And.right (And.right (And.right ‹_ ∧ _ ∧ _ ∧ Fr (fun _ => False) _ _›))) _)
                  clear hK K
                  try simp only [Act.put, List.setIfInBounds_toArray, List.set_cons_zero, List.set_cons_succ]
                  refine wpAnyH_ready (rs := [32]) (by kernel_rfl) (by simp) ?_
                  refine AllReadyH.cons (o := _) (by simp only [List.getElem?_toArray, List.getElem?_cons_zero, List.getElem?_cons_succ]; rfl) (fun K hK => ?_) ?_
                  · skip
                    go_simp
                    go_at_call 30
                    refine (HRD.out _).mono ?_
                    rintro e wB ⟨rfl, hfG⟩
                    refine hK.out _ _ ?_ (fun hHeld => ?_)
                    · try dsimp only
                      first | assumption | exact HSX.out _ (Fr.refl _ _).drew | exact HSX.out _ (Fr.trans' (And.right (And.right (And.right ‹_ ∧ _ ∧ _ ∧ Fr (fun _ => False) _ _›))) ‹Fr (fun _ => False) _ _›) | exact HSX.out _ (Fr.alloc (And.right (And.right (And.right ‹_ ∧ _ ∧ _ ∧ Fr (fun _ => False) _ _›))) _)
                    clear hK K
                    try simp only [Act.put, List.setIfInBounds_toArray, List.set_cons_zero, List.set_cons_succ]
                    refine wpAnyH_ready (rs := [33]) (by kernel_rfl) (by simp) ?_
                    refine AllReadyH.cons (o := _) (by simp only [List.getElem?_toArray, List.getElem?_cons_zero, List.getElem?_cons_succ]; rfl) (fun K hK => ?_) ?_
                    · skip
                      go_simp
                      refine hK.out _ _ ?_ (fun hHeld => ?_)
                      · try dsimp only
                        first | assumption | exact HSX.out _ (Fr.refl _ _).drew | exact HSX.out _ (Fr.trans' (And.right (And.right (And.right ‹_ ∧ _ ∧ _ ∧ Fr (fun _ => False) _ _›))) ‹Fr (fun _ => False) _ _›) | exact HSX.out _ (Fr.alloc (And.right (And.right (And.right ‹_ ∧ _ ∧ _ ∧ Fr (fun _ => False) _ _›))) _)
                      clear hK K
                      try simp only [Act.put, List.setIfInBounds_toArray, List.set_cons_zero, List.set_cons_succ]
                      refine wpAnyH_ready (rs := [34]) (by kernel_rfl) (by simp) ?_
                      refine AllReadyH.cons (o := _) (by simp only [List.getElem?_toArray, List.getElem?_cons_zero, List.getElem?_cons_succ]; rfl) (fun K hK => ?_) ?_
                      · skip
                        go_simp
                        go_at_call 28
                        refine (lines_same2 TX _ _ _ _ _ (by (repeat' (first | exact hRA | exact row_lit _ _ _ rfl | exact row_lit _ _ _ (by simp) | refine OneRow.alloc ?_ _ | refine OneRow.fr ?_ ‹Fr (fun _ => False) _ _›))) (by (repeat' (first | exact hRA | exact row_lit _ _ _ rfl | exact row_lit _ _ _ (by simp) | refine OneRow.alloc ?_ _ | refine OneRow.fr ?_ ‹Fr (fun _ => False) _ _›)))).mono ?_
                        rintro e wZ ⟨rfl, hfG⟩
                        refine hK.out _ _ ?_ (fun hHeld => ?_)
                        · try dsimp only
                          first | assumption | exact HSX.out _ (Fr.refl _ _).drew | exact HSX.out _ (Fr.trans' (And.right (And.right (And.right ‹_ ∧ _ ∧ _ ∧ Fr (fun _ => False) _ _›))) ‹Fr (fun _ => False) _ _›) | exact HSX.out _ (Fr.alloc (And.right (And.right (And.right ‹_ ∧ _ ∧ _ ∧ Fr (fun _ => False) _ _›))) _)
                        clear hK K
                        try simp only [Act.put, List.setIfInBounds_toArray, List.set_cons_zero, List.set_cons_succ]
                        refine wpAnyH_take (i := 35) (oi := _) (v := ?_) (by simp only [List.getElem?_toArray, List.getElem?_cons_zero, List.getElem?_cons_succ]; rfl) (by kernel_rfl) (by kernel_rfl) (by kernel_rfl) (fun _ _ _ h => h) (Or.inl ⟨by rfl, ?_⟩) (by assumption) ?_
                        rotate_left
                        · intro w hSw
                          try dsimp only at hSw
                          go_simp
                          all_goals (with_reducible rfl)
                        try simp only [Act.put, List.setIfInBounds_toArray, List.set_cons_zero, List.set_cons_succ]
                        refine wpAnyH_take (i := 36) (oi := _) (v := ?_) (by simp only [List.getElem?_toArray, List.getElem?_cons_zero, List.getElem?_cons_succ]; rfl) (by kernel_rfl) (by kernel_rfl) (by kernel_rfl) (fun _ _ _ h => h) (Or.inl ⟨by rfl, ?_⟩) (by assumption) ?_
                        rotate_left
                        · intro w hSw
                          try dsimp only at hSw
                          go_simp
                          all_goals (with_reducible rfl)
                        try simp only [Act.put, List.setIfInBounds_toArray, List.set_cons_zero, List.set_cons_succ]
                        refine wpAnyH_done (by kernel_rfl) ?_ _
                        refine NoPanic.normal ?_
                        have hFZ : Fr (fun _ => False) w wZ := (HFA.out.trans (And.right (And.right (And.right ‹_ ∧ _ ∧ _ ∧ Fr (fun _ => False) _ _›))) (fun _ _ h => h.elim)).shut (Nat.le_refl _)
                        clear hHeld
                        go_wp2_with fail
                        go_ret
                        exact ⟨rfl, hFZ⟩
                      exact AllReadyH.nil
                    exact AllReadyH.nil
                  exact AllReadyH.nil
                exact AllReadyH.nil
              exact AllReadyH.nil
            exact AllReadyH.nil
          exact AllReadyH.nil
        exact AllReadyH.nil
      exact AllReadyH.nil

/-- The law: on either way the function answers yes. -/
theorem tfullsLaw_any (x : Int) (there : Bool) (w : World) (hx0 : 0 ≤ x) (hx : x ≤ 255) (hg : Sg w) (hes : Es w) : Calls Tryz.prog 6 #[.int .u8 x, .bool there] w (IsB true w) := by
  cases there with
  | true => exact tfulls_true x w hx0 hx hg hes
  | false => exact tfulls_false x w hx0 hx hg hes

end Go.Proofs.YtebddgdkndmpjaaGreatDoor
