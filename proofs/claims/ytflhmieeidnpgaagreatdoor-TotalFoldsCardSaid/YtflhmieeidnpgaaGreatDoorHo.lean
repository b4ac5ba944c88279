/- What a var stands for in a table's rows, and its sum: walked. -/
import Derived.Test.YtflhmieeidnpgaaGreatDoorHn
import Derived.Test.YtflhmieeidnpgaaGreatDoorHa
import Derived.Laws.Externs
import Derived.Deep.CutBlock
import Derived.Deep.RegionLawGrows
import Derived.Deep.Cut
import Derived.Deep.CutRange
import Derived.WalkKit
import Derived.WalkLawsBesides
import Derived.WalkSpells
import Derived.Deep.QuietTactic
import Derived.BigRegion
import Derived.BigQuiet
import Derived.Lib.Hide
import Derived.Outline
import Derived.Deep.AppendLies
import Derived.Deep.RegionLaw
import Derived.Deep.RegionWith
import Derived.Deep.RegionHeld3
import Derived.Deep.LoopGhost
import Derived.Deep.DeepFit
import Derived.Laws.ResultCell
import Derived.Laws.RangeAny
import Derived.Deep.MidRow
import Derived.StillTailTactics
import Derived.OpenShut
namespace Go.Proofs.YtflhmieeidnpgaaGreatDoor
set_option linter.unusedVariables false
open Go.RowKit Go

def termN (ts : List Tm) (n : Int) : Option Tm := if 0 ≤ n then ts[n.toNat]? else none
set_option maxRecDepth 100000 in
set_option maxHeartbeats 4000000 in
theorem has_any (B b r : Nat) (vt : Value) (ts : List Tm) (room n : Int) (w : World) (hd : IsDict w B b r vt ts room) (hl : ts.length ≤ 100000) :
    Calls Tryz.prog 82 #[.pointer (some ⟨b, 0, none⟩), .int .i64 n] w fun e w' => e = .returned (.bool (termN ts n).isSome) ∧ w = w' := by
  obtain ⟨A, c, hv⟩ := row_shape hd.row
  subst hv
  have c0 : w.cell? ⟨b, 0, none⟩ = some (.slice A ts.length c) := hd.blk.cell 0
  clear hd
  unfold termN
  by_cases h0 : 0 ≤ n
  · rw [if_pos h0]
    by_cases h1 : n < (ts.length : Int)
    · have e : (ts[n.toNat]?).isSome = true := by rw [List.getElem?_eq_getElem (by omega)]; rfl
      rw [e]
      clear e
      go_enter Tryz.func82, Tryz.ntmps82
      go_wp2_with fail
      go_ret
      exact ⟨rfl, rfl⟩
    · have e : (ts[n.toNat]?).isSome = false := by rw [List.getElem?_eq_none (by omega)]; rfl
      rw [e]
      clear e
      go_enter Tryz.func82, Tryz.ntmps82
      go_wp2_with fail
      go_ret
      exact ⟨rfl, rfl⟩
  · rw [if_neg h0]
    have e : (none : Option Tm).isSome = false := rfl
    rw [e]
    clear e
    go_enter Tryz.func82, Tryz.ntmps82
    go_wp2_with fail
    go_ret
    exact ⟨rfl, rfl⟩

def termV : Option Tm → Value
  | some t => t.val
  | none => .nilIface
def termE : Option Tm → Int
  | some _ => 0
  | none => 4
set_option maxRecDepth 100000 in
set_option maxHeartbeats 4000000 in
theorem term_any (B b r : Nat) (vt : Value) (ts : List Tm) (room n : Int) (w : World) (hd : IsDict w B b r vt ts room) (hl : ts.length ≤ 100000) :
    Calls Tryz.prog 52 #[.pointer (some ⟨b, 0, none⟩), .int .i64 n] w fun e w' => e = .returned (.tuple #[termV (termN ts n), .int .i64 (termE (termN ts n))]) ∧ w = w' := by
  have HH := Lib.hid (has_any B b r vt ts room n w hd hl)
  cases ht : termN ts n with
  | none =>
    rw [ht] at HH
    clear hd ht
    unfold termV termE
    dsimp only [Option.isSome_none] at HH
    go_enter Tryz.func52, Tryz.ntmps52
    go_wp2_with fail
    refine HH.out.mono ?_
    rintro e w1 ⟨rfl, rfl⟩
    go_wp2_with fail
    go_ret2
    exact ⟨rfl, rfl⟩
  | some t =>
    rw [ht] at HH
    have h0 : 0 ≤ n := by
      unfold termN at ht
      split at ht
      · assumption
      · cases ht
    have h1 : ts[n.toNat]? = some t := by
      unfold termN at ht
      rw [if_pos h0] at ht
      exact ht
    obtain ⟨k, rfl⟩ : ∃ k : Nat, n = (k : Int) := ⟨n.toNat, by omega⟩
    rw [Int.toNat_natCast] at h1
    have hlt := (List.getElem?_eq_some_iff.1 h1).1
    obtain ⟨g, c, hv⟩ := row_pos hd.row (by omega)
    have cr := World.ownsRow.cellAt (hv ▸ hd.row) k (by omega)
    rw [List.getElem?_map, h1] at cr
    have hk : (k : Int) < (ts.length : Int) := by omega
    subst hv
    have c0 : w.cell? ⟨b, 0, none⟩ = some (.slice (some ⟨g, 0, none⟩) ts.length c) := hd.blk.cell 0
    unfold termV termE
    obtain ⟨d, x, hx⟩ := t.shape
    dsimp only
    rw [hx]
    have cr2 : w.cell? ⟨g, k, none⟩ = some (.iface d x) := by rw [← hx]; exact cr
    clear hd ht h0 h1 hlt cr hx
    dsimp only [Option.isSome_some] at HH
    go_enter Tryz.func52, Tryz.ntmps52
    go_wp2_with fail
    refine HH.out.mono ?_
    rintro e w1 ⟨rfl, rfl⟩
    go_wp2_with fail
    go_ret2
    exact ⟨rfl, rfl⟩

/-- The terms that a var stands for, row by row. -/
def termsTo (ts : List Tm) (p : Nat) (fnd : Bool) (rows : List (List Int)) : Nat → List Tm
  | 0 => []
  | i + 1 => match termN ts (valN p fnd (rows.getD i [])) with
    | some t => termsTo ts p fnd rows i ++ [t]
    | none => termsTo ts p fnd rows i
theorem termsTo_le (ts : List Tm) (p : Nat) (fnd : Bool) (rows : List (List Int)) : ∀ i, (termsTo ts p fnd rows i).length ≤ i ∧ ∀ t, t ∈ termsTo ts p fnd rows i → t ∈ ts
  | 0 => ⟨Nat.le_refl _, fun t h => by cases h⟩
  | i + 1 => by
    obtain ⟨h1, h2⟩ := termsTo_le ts p fnd rows i
    unfold termsTo
    cases ht : termN ts (valN p fnd (rows.getD i [])) with
    | none => exact ⟨by dsimp only; omega, h2⟩
    | some t =>
      refine ⟨by simp; omega, fun u hu => ?_⟩
      simp only [List.mem_append, List.mem_singleton] at hu
      rcases hu with hu | rfl
      · exact h2 u hu
      · unfold termN at ht
        split at ht
        · exact List.mem_of_getElem? ht
        · cases ht
def TermsPost (w : World) (l : List Tm) (e : Ending) (w' : World) : Prop :=
  ∃ v, e = .returned v ∧ w'.ownsRow w.heap.size 37 1 v l.length (l.map Tm.val) ∧ Fr (fun _ => False) w w'

set_option maxRecDepth 100000 in
set_option maxHeartbeats 4000000 in
theorem terms_any (vg vc B1 B2 B b r p : Nat) (v : ByteArray) (fnd : Bool) (vt vr : Value) (vals : List Value) (ts : List Tm) (room : Int) (rows : List (List Int)) (w : World) (hv : IsVar v p fnd) (hn : rows.length ≤ 4096) (h3 : ∀ r, r ∈ rows → r.length = 3) (hl : ts.length ≤ 100000)
    (hs : w.ownsRow B1 9 1 (.slice (some ⟨vg, 0, none⟩) 3 vc) 3 (abc.map .string)) (hr : RowsAt w B2 vr vals rows) (hd : IsDict w B b r vt ts room) :
    Calls Tryz.prog 25 #[.agg #[.slice (some ⟨vg, 0, none⟩) 3 vc, vr], .string v, .pointer (some ⟨b, 0, none⟩)] w (TermsPost w (termsTo ts p fnd rows rows.length)) := by
  obtain ⟨A0, c0, hvt⟩ := row_shape hr.own
  subst hvt
  obtain ⟨i37, hi37, hz370, hz371, hz372⟩ := info_parts info37
  have HS := Lib.hid hs
  have HR := Lib.hid hr
  have HD := Lib.hid hd
  have HV := Lib.hid hv
  have H3 := Lib.hid h3
  have hb := Blk.new w 29 #[.slice (some ⟨vg, 0, none⟩) 3 vc, .slice A0 rows.length c0]
  have HB := Lib.hid hb
  have HL := Lib.hid hl
  clear hs hr hd hv h3 hb hl
  generalize hrl : rows.length = n at *
  have HRL := Lib.hid hrl
  clear hrl
  go_enter Tryz.func25, Tryz.ntmps25
  go_wp2_with fail
  go_loopw [7, 15] (fun lv iv wr => ∃ i : Nat, iv = .int .i64 (i : Int) ∧ i ≤ n ∧ Blk wr w.heap.size 29 #[.slice (some ⟨vg, 0, none⟩) 3 vc, .slice A0 n c0] ∧ wr.ownsRow (w.heap.size + 1) 37 1 lv (termsTo ts p fnd rows i).length ((termsTo ts p fnd rows i).map Tm.val) ∧ Fr (fun _ => False) w wr ∧ w.heap.size + 1 ≤ wr.heap.size) (fun _ iv _ => n - (intOf iv).toNat)
  case atStart => exact ⟨0, rfl, Nat.zero_le _, HB.out, World.ownsRow_nil _ _ _ _, (Fr.refl _ _).alloc _, by simp⟩
  case round =>
    obtain ⟨i, rfl, hi, hbl, hown, hf, hsz⟩ := hrel
    have HBL := Lib.hid hbl
    have HOWN := Lib.hid hown
    have HF := Lib.hid hf
    by_cases hlt : i < n
    · have hlt' : decide (i < n) = true := by simpa using hlt
      have hRw := HR.out.frF hf
      have hro := hRw.own
      rw [HRL.out] at hro
      obtain ⟨ga, rfl, _, _, _⟩ := row_form hro (by omega)
      have h3i : (rows.getD i []).length = 3 := by
        refine H3.out _ ?_
        rw [List.getD_eq_getElem?_getD, List.getElem?_eq_getElem (by rw [HRL.out]; exact hlt)]
        exact List.getElem_mem _
      have ck : wr.cell? ⟨ga, i, none⟩ = some (vals.getD i undef) := by
        rw [World.ownsRow.cellAt hro i (by omega), List.getD_eq_getElem?_getD, List.getElem?_eq_getElem (by have := hRw.len; rw [HRL.out] at this; omega)]; rfl
      have hek := hRw.each i (by rw [HRL.out]; exact hlt)
      obtain ⟨rg, rc, hvk⟩ := row_pos hek (by rw [h3i]; omega)
      rw [hvk] at ck hek
      rw [h3i] at ck hek
      have HVA := Lib.hid (value_any vg vc B1 B2 p n c0 (some ⟨ga, 0, none⟩) v fnd (.slice (some ⟨rg, 0, none⟩) 3 rc) (rows.getD i []) wr HV.out h3i (ownsRow_fr HS.out hf (fun _ _ h => h)) hek)
      have HTE := Lib.hid (fun wy hd => term_any B b r vt ts room (valN p fnd (rows.getD i [])) wy hd HL.out)
      have t0 : wr.cell? ⟨w.heap.size, 0, none⟩ = some (.slice (some ⟨vg, 0, none⟩) 3 vc) := hbl.cell 0
      have t1 : wr.cell? ⟨w.heap.size, 1, none⟩ = some (.slice (some ⟨ga, 0, none⟩) n c0) := hbl.cell 1
      have hst : termsTo ts p fnd rows (i + 1) = (match termN ts (valN p fnd (rows.getD i [])) with | some t => termsTo ts p fnd rows i ++ [t] | none => termsTo ts p fnd rows i) := rfl
      have htl := (termsTo_le ts p fnd rows i).1
      clear hf hRw hro hek h3i hvk hbl hown
      cases htn : termN ts (valN p fnd (rows.getD i [])) with
      | none =>
        rw [htn] at hst HTE
        have HST := Lib.hid hst
        generalize valN p fnd (rows.getD i []) = vn at *
        unfold termV termE at HTE
        dsimp only at HTE
        clear hst htn
        go_wp2_with fail
        refine HVA.out.mono ?_
        rintro e w1 ⟨rfl, hf1⟩
        have HF1 := Lib.hid hf1
        clear hf1
        go_wp2_with fail
        refine (HTE.out _ (HD.out.frF (HF.out.trans' HF1.out))).mono ?_
        rintro e w2 ⟨rfl, rfl⟩
        go_wp2_with fail
        go_roundw
        case rel => exact ⟨i + 1, by go_num, hlt, HBL.out.fr HF1.out (fun h => h), by rw [HST.out]; exact ownsRow_fr HOWN.out HF1.out (fun _ _ h => h), HF.out.trans' HF1.out, Nat.le_trans hsz HF1.out.size⟩
        case measure => simp [intOf]; omega
      | some t =>
        rw [htn] at hst HTE
        have HST := Lib.hid hst
        generalize valN p fnd (rows.getD i []) = vn at *
        unfold termV termE at HTE
        dsimp only at HTE
        clear hst htn
        obtain ⟨d, x, hx⟩ := t.shape
        have h1 := t.one
        rw [hx] at HTE h1
        have H1 := Lib.hid h1
        have HX := Lib.hid hx
        clear hx h1
        obtain ⟨Al, cl, hlv⟩ := row_shape HOWN.out
        subst hlv
        generalize hll : (termsTo ts p fnd rows i).length = k at *
        have HLL := Lib.hid hll
        clear hll
        go_wp2_with fail
        refine HVA.out.mono ?_
        rintro e w1 ⟨rfl, hf1⟩
        have HF1 := Lib.hid hf1
        clear hf1
        go_wp2_with fail
        refine (HTE.out _ (HD.out.frF (HF.out.trans' HF1.out))).mono ?_
        rintro e w2 ⟨rfl, rfl⟩
        have hsz1 := HF1.out.size
        go_wp2_with (at_builtin; refine wpList_append_own_at _ rfl _ _ 76 rfl (w.heap.size + 1) 37 i37 _ 1 16 Tryz.underlying76 hi37 hz370 hz371 hz372 rfl (by decide) _ k ((termsTo ts p fnd rows i).map Tm.val) (by rfl) ((ownsRow_fr HOWN.out HF1.out (fun _ _ h => h)).alloc _) ⟨w1.heap.size, 0, none⟩ 1 1 [.iface d x] (by rfl) rfl (World.news_of_block (heap_alloc_new w1 _)) (by intro u hu; rw [List.mem_singleton] at hu; rw [hu]; exact H1.out) (by unfold maxLen; omega) (by omega) (by simp; omega) ?_; intro v6 w6 hown6 hgr6 _ hat6; obtain ⟨A6, c6, hv6⟩ := row_shape hown6; subst hv6)
        have hob := ownsRow_fr HOWN.out HF1.out (fun _ _ h => h)
        have F6 : Fr (fun j => (Value.slice Al k cl).ownBlock = some j) w1 w6 := ((Fr.refl _ _).alloc _).trans (Fr.of_grown hgr6) (fun _ _ h => h)
        have HB6 := Lib.hid ((HBL.out.fr HF1.out (fun h => h)).fr F6 (fun h => absurd (hob.lt _ h).1 (by omega)))
        have HF6 := Lib.hid ((HF.out.trans' HF1.out).trans F6 (fun j hj h => absurd (hob.lt j h).1 (by omega)))
        have hs6 := F6.size
        have HO6 := Lib.hid hown6
        clear hown6 hgr6 hat6 F6 hob
        go_wp2_with fail
        go_roundw
        case rel => exact ⟨i + 1, by go_num, hlt, HB6.out, by rw [HST.out, List.length_append, List.map_append, List.map_singleton, HX.out, HLL.out]; exact HO6.out, HF6.out, by omega⟩
        case measure => simp [intOf]; omega
    · have hlt' : decide (i < n) = false := by simpa using hlt
      have hin : i = n := by omega
      subst hin
      clear hf hbl hown
      go_wp2_with fail
      go_ret
      exact ⟨_, rfl, ownsRow_base HOWN.out (Nat.le_succ _), HF.out⟩

theorem add63 (x y : Int) (hx : 0 ≤ x) (hy : 0 ≤ y) (w : World) : (callFunc 63 #[.int .u64 x, .int .u64 y, .int .u64 0]).run Tryz.prog w = .ok (.value (.tuple #[.int .u64 ((x + y) % 18446744073709551616), .int .u64 ((x + y) / 18446744073709551616)])) w := by
  rw [run_callFunc_extern Tryz.func63 (by kernel_rfl) (by kernel_rfl) (by kernel_rfl) (e := add64Entry) (by kernel_rfl), run_add64 x y 0 hx hy (by omega) (by omega)]
  simp only [Result.andThen, Int.add_zero]
instance : Inhabited Tm := ⟨.bla ⟨#[]⟩⟩
/-- The sum of the integers of the first terms. -/
def sumTo (l : List Tm) : Nat → Int
  | 0 => 0
  | i + 1 => sumTo l i + (asIntT (l.getD i default)).1
/-- The sum of terms' integers. -/
def SumIs (l : List Tm) (s : Int) : Prop := (∀ j, j < l.length → (asIntT (l.getD j default)).2 = 0) ∧ s = sumTo l l.length ∧ -9223372036854775808 ≤ s ∧ s ≤ 9223372036854775807
def SumPost (l : List Tm) (w : World) (e : Ending) (w' : World) : Prop :=
  Fr (fun _ => False) w w' ∧ ((∃ s, e = .returned (.tuple #[(intTm s).val, .bool true]) ∧ SumIs l s) ∨ (e = .returned (.tuple #[.nilIface, .bool false]) ∧ ∀ s, ¬ SumIs l s))
theorem u64_wrap (an : Int) (h1 : -9223372036854775808 ≤ an) (h2 : an ≤ 9223372036854775807) : IntKind.u64.wrap an = if an < 0 then an + 18446744073709551616 else an := by
  unfold IntKind.wrap
  simp [IntKind.signed, IntKind.bits]
  split <;> omega
theorem sum_step (h lo an : Int) (a1 : -9223372036854775808 ≤ an) (a2 : an ≤ 9223372036854775807) (l0 : 0 ≤ lo) (l1 : lo ≤ 18446744073709551615) (h0 : -1000 ≤ h) (h1 : h ≤ 1000) :
    ∃ h' lo' : Int, wrap64 (h + wrap64 (an / 9223372036854775808 + wrap64 ((lo + IntKind.u64.wrap an) / 18446744073709551616))) = h' ∧ (lo + IntKind.u64.wrap an) % 18446744073709551616 = lo' ∧
      h' * 18446744073709551616 + lo' = h * 18446744073709551616 + lo + an ∧ 0 ≤ lo' ∧ lo' ≤ 18446744073709551615 ∧ h - 1 ≤ h' ∧ h' ≤ h + 1 := by
  rw [u64_wrap an a1 a2]
  unfold wrap64
  by_cases hn : an < 0
  · rw [if_pos hn]
    have e : an / 9223372036854775808 = -1 := by omega
    rw [e]
    refine ⟨_, _, rfl, rfl, ?_, ?_, ?_, ?_, ?_⟩ <;> omega
  · rw [if_neg hn]
    have e : an / 9223372036854775808 = 0 := by omega
    rw [e]
    refine ⟨_, _, rfl, rfl, ?_, ?_, ?_, ?_, ?_⟩ <;> omega
theorem sum_end (h lo : Int) (l0 : 0 ≤ lo) (l1 : lo ≤ 18446744073709551615) :
    (wrap64 lo / 9223372036854775808 = h → wrap64 lo = h * 18446744073709551616 + lo ∧ -9223372036854775808 ≤ wrap64 lo ∧ wrap64 lo ≤ 9223372036854775807) ∧
    (¬ wrap64 lo / 9223372036854775808 = h → ¬ (-9223372036854775808 ≤ h * 18446744073709551616 + lo ∧ h * 18446744073709551616 + lo ≤ 9223372036854775807)) := by
  unfold wrap64
  constructor
  · intro e
    omega
  · intro e
    omega

set_option maxRecDepth 100000 in
set_option maxHeartbeats 4000000 in
theorem sum_any (B : Nat) (v : Value) (l : List Tm) (w : World) (hl : l.length ≤ 100) (hs : ∀ t, t ∈ l → t.short) (hr : w.ownsRow B 37 1 v l.length (l.map Tm.val)) (hg : Glob w) :
    Calls Tryz.prog 26 #[v] w (SumPost l w) := by
  obtain ⟨A, c, hv⟩ := row_shape hr
  subst hv
  have HR := Lib.hid hr
  have HG := Lib.hid hg
  have HS := Lib.hid hs
  have hadd := add63
  clear hr hg hs
  generalize hll : l.length = n at *
  have HLL := Lib.hid hll
  clear hll
  go_enter Tryz.func26, Tryz.ntmps26
  go_wp2_with fail
  go_loopw [4, 5, 15] (fun hv lv iv wr => ∃ (i : Nat) (h lo : Int), iv = .int .i64 (i : Int) ∧ hv = .int .i64 h ∧ lv = .int .u64 lo ∧ i ≤ n ∧ Fr (fun _ => False) w wr ∧ 0 ≤ lo ∧ lo ≤ 18446744073709551615 ∧ -(i : Int) ≤ h ∧ h ≤ i ∧ h * 18446744073709551616 + lo = sumTo l i ∧ ∀ j, j < i → (asIntT (l.getD j default)).2 = 0) (fun _ _ iv _ => n - (intOf iv).toNat)
  case atStart => exact ⟨0, 0, 0, rfl, rfl, rfl, Nat.zero_le _, Fr.refl _ _, by omega, by omega, by omega, by omega, rfl, fun j hj => absurd hj (Nat.not_lt_zero _)⟩
  case round =>
    obtain ⟨i, h, lo, rfl, rfl, rfl, hi, hf, hl0, hl1, hh0, hh1, hsum, hok⟩ := hrel
    have HF := Lib.hid hf
    have HSUM := Lib.hid hsum
    have HOK := Lib.hid hok
    clear hsum hok
    by_cases hlt : i < n
    · have hlt' : decide (i < n) = true := by simpa using hlt
      have hro := ownsRow_fr HR.out hf (fun _ _ h => h)
      obtain ⟨ga, rfl, _, _, _⟩ := row_form hro (by omega)
      have ck : wr.cell? ⟨ga, i, none⟩ = some (l.getD i default).val := by
        rw [World.ownsRow.cellAt hro i (by omega), List.getElem?_map, List.getD_eq_getElem?_getD, List.getElem?_eq_getElem (by rw [HLL.out]; exact hlt)]; rfl
      have hsh : (l.getD i default).short := HS.out _ (by rw [List.getD_eq_getElem?_getD, List.getElem?_eq_getElem (by rw [HLL.out]; exact hlt)]; exact List.getElem_mem _)
      have hai := asInt_any (l.getD i default) wr hsh (HG.out.fr hf)
      have hbd := asIntT_bd (l.getD i default)
      have hnx : sumTo l (i + 1) = sumTo l i + (asIntT (l.getD i default)).1 := rfl
      obtain ⟨tt, htt⟩ : ∃ tt, l.getD i default = tt := ⟨_, rfl⟩
      rw [htt] at ck hsh hai hbd hnx
      have HTT := Lib.hid htt
      obtain ⟨d, x, hx⟩ := tt.shape
      rw [hx] at ck hai
      obtain ⟨ai, hai2⟩ : ∃ ai, asIntT tt = ai := ⟨_, rfl⟩
      rw [hai2] at hai hbd hnx
      have HA2 := Lib.hid hai2
      obtain ⟨an, ae⟩ := ai
      dsimp only at hai hbd hnx
      have HNX := Lib.hid hnx
      have HAI := Lib.hid hai
      clear hf hro hsh hx hai hnx htt hai2
      by_cases he : ae = 0
      · subst he
        obtain ⟨h', lo', q1, q2, q3, q4, q5, q6, q7⟩ := sum_step h lo an hbd.1 hbd.2 hl0 hl1 (by omega) (by omega)
        have Q1 := Lib.hid q1
        have Q2 := Lib.hid q2
        have Q3 := Lib.hid q3
        clear q1 q2 q3
        go_wp2_with fail
        refine HAI.out.mono ?_
        rintro e w1 ⟨rfl, hf1⟩
        have HF1 := Lib.hid (HF.out.trans' hf1)
        clear hf1
        go_wp2_with fail
        go_roundw
        case rel => exact ⟨i + 1, h', lo', by go_num, by rw [Q1.out], by rw [Q2.out], hlt, HF1.out, q4, q5, by omega, by omega, by rw [Q3.out, HNX.out, HSUM.out], fun j hj => by
          by_cases e : j = i
          · rw [e, HTT.out, HA2.out]
          · exact HOK.out j (by omega)⟩
        case measure => simp [intOf]; omega
      · have he' : (ae != 0) = true := by simp [he]
        go_wp2_with fail
        refine HAI.out.mono ?_
        rintro e w1 ⟨rfl, hf1⟩
        have HF1 := Lib.hid (HF.out.trans' hf1)
        clear hf1
        go_wp2_with fail
        go_ret2
        refine ⟨HF1.out, .inr ⟨rfl, fun s hs => he ?_⟩⟩
        have := hs.1 i (by rw [HLL.out]; exact hlt)
        rw [HTT.out, HA2.out] at this
        exact this
    · have hlt' : decide (i < n) = false := by simpa using hlt
      have hin : i = n := by omega
      subst hin
      obtain ⟨z1, z2⟩ := sum_end h lo hl0 hl1
      have HZ2 := Lib.hid z2
      by_cases hq : wrap64 lo / 9223372036854775808 = h
      · obtain ⟨y1, y2, y3⟩ := z1 hq
        have hq' : (wrap64 lo / 9223372036854775808 == h) = true := by simp [hq]
        have HINT := Lib.hid (fun w hg => int_any (wrap64 lo) y2 y3 w hg)
        have HY1 := Lib.hid y1
        clear z1 z2 hq y1
        go_wp2_with fail
        refine (HINT.out _ (HG.out.fr HF.out)).mono ?_
        rintro e w1 ⟨rfl, hf1⟩
        have HF1 := Lib.hid (HF.out.trans' hf1)
        clear hf1
        go_wp2_with fail
        go_ret2
        refine ⟨HF1.out, .inl ⟨wrap64 lo, rfl, fun j hj => HOK.out j (by rw [← HLL.out]; exact hj), by rw [HLL.out, HY1.out]; exact HSUM.out, y2, y3⟩⟩
      · have hq' : (wrap64 lo / 9223372036854775808 == h) = false := by simp [hq]
        have HQ := Lib.hid hq
        clear z1 z2 hq hf
        go_wp2_with fail
        go_ret2
        refine ⟨HF.out, .inr ⟨rfl, fun s hs => HZ2.out HQ.out ?_⟩⟩
        obtain ⟨_, e1, e2, e3⟩ := hs
        rw [HLL.out] at e1
        rw [HSUM.out, ← e1]
        exact ⟨e2, e3⟩

end Go.Proofs.YtflhmieeidnpgaaGreatDoor
