/- The rows of another table, read by other vars; some vars alone: walked. -/
import Derived.Test.YtebddgdkndmpjaaGreatDoorAh
import Derived.Test.YtebddgdkndmpjaaGreatDoorHf
import Derived.Test.YtebddgdkndmpjaaGreatDoorBk
import Derived.Deep.CutBlock
import Derived.Deep.RegionLawGrows
import Derived.Deep.Cut
import Derived.Deep.CutRange
import Derived.WalkKit
import Derived.WalkLawsBesides
import Derived.WalkSpells
import Derived.Deep.QuietTactic
import Derived.BigRegion
import Derived.BigQuiet
import Derived.Lib.Hide
import Derived.Outline
import Derived.Deep.AppendLies
import Derived.Deep.RegionLaw
import Derived.Deep.RegionWith
import Derived.Deep.RegionHeld3
import Derived.Deep.LoopGhost
import Derived.Deep.DeepFit
import Derived.Laws.ResultCell
import Derived.Laws.RangeAny
import Derived.Deep.MidRow
import Derived.StillTailTactics
import Derived.OpenShut
namespace Go.Proofs.YtebddgdkndmpjaaGreatDoor
set_option linter.unusedVariables false
open Go.RowKit Go

/-- A row, as other vars read it. -/
def projRow (pf : Nat → Nat × Bool) (m : Nat) (xs : List Int) : List Int := (List.range m).map fun k => valN (pf k).1 (pf k).2 xs
theorem projRow_len (pf : Nat → Nat × Bool) (m : Nat) (xs : List Int) : (projRow pf m xs).length = m := by unfold projRow; simp
theorem projRow_get (pf : Nat → Nat × Bool) (m : Nat) (xs : List Int) {k : Nat} (h : k < m) : (projRow pf m xs).getD k 0 = valN (pf k).1 (pf k).2 xs := by
  unfold projRow
  rw [List.getD_eq_getElem?_getD, List.getElem?_map, List.getElem?_range h]
  rfl
theorem valN_ge (p : Nat) (f : Bool) (xs : List Int) (h : ∀ k, k < xs.length → -1 ≤ xs.getD k 0) (hp : f = true → p < xs.length) : -1 ≤ valN p f xs := by
  unfold valN
  cases f with
  | true => exact h p (hp rfl)
  | false => simp

set_option maxRecDepth 100000 in
set_option maxHeartbeats 4000000 in
/-- What a row of another table reads. -/
theorem read130 (v : ByteArray) (ab rb tm tvc n rc xc B B' p : Nat) (TV AR XA : Option Addr) (ts : List ByteArray) (xs : List Int) (fnd : Bool) (w : World) (ht : tm ≤ 4096) (hv : IsVar ts v p fnd) (hx : xs.length = tm)
    (hab : Blk w ab 63 #[.slice TV tm tvc, .slice AR n rc]) (hrb : Blk w rb 48 #[.slice XA tm xc]) (htv : w.ownsRow B 9 1 (.slice TV tm tvc) tm (ts.map .string)) (hxs : IntRow w B' (.slice XA tm xc) xs) :
    Calls Tryz.prog 130 #[.string v, .pointer (some ⟨ab, 0, none⟩), .pointer (some ⟨rb, 0, none⟩)] w fun e w' => e = .returned (.int .i64 (valN p fnd xs)) ∧ Fr (fun _ => False) w w' := by
  have a0 : w.cell? ⟨ab, 0, none⟩ = some (.slice TV tm tvc) := hab.cell 0
  have a1 : w.cell? ⟨ab, 1, none⟩ = some (.slice AR n rc) := hab.cell 1
  have r0 : w.cell? ⟨rb, 0, none⟩ = some (.slice XA tm xc) := hrb.cell 0
  have HV := Lib.hid (value_any tm tvc B B' p TV (.slice AR n rc) ts v fnd (.slice XA tm xc) xs w ht hv hx htv hxs)
  generalize valN p fnd xs = y at *
  clear hab hrb htv hxs hv hx
  go_enter Tryz.func130, Tryz.ntmps130
  go_wp2_with fail
  refine HV.out.mono ?_
  rintro e w1 ⟨rfl, hf1⟩
  go_wp2_with fail
  go_ret
  exact ⟨rfl, hf1⟩
theorem enters130 : ∀ args w, (callFunc 130 args).run Tryz.prog w = .ok (.enter 130 args) w := fun args w => by kernel_rfl

def AsPost (w : World) (B tb m vc : Nat) (V : Option Addr) (rows : List (List Int)) (e : Ending) (w' : World) : Prop :=
  e = .returned (.tuple #[]) ∧ ∃ vr vals, Blk w' tb 63 #[.slice V m vc, vr] ∧ RowsAt w' B vr vals rows ∧ Fr (fun j => j = tb) w w'
structure AsInv (w1 wr : World) (n0 B tb m vc : Nat) (V : Option Addr) (vr : Value) (vals : List Value) (rows : List (List Int)) : Prop where
  tab : Blk wr tb 63 #[.slice V m vc, vr]
  rows : RowsAt wr B vr vals rows
  new : ∀ j, vr.ownBlock = some j → n0 ≤ j
  fr : Fr (fun j => j = tb ∨ n0 ≤ j) w1 wr

set_option maxRecDepth 100000 in
set_option maxHeartbeats 40000000 in
/-- All rows of another table, put. -/
theorem as_any (pf : Nat → Nat × Bool) (tb m vc tm tvc Ba Bt B : Nat) (V TV : Option Addr) (ts ss : List ByteArray) (avr : Value) (avals : List Value) (arows : List (List Int)) (w : World) (hm : m ≤ 4096) (ht : tm ≤ 4096) (hss : ss.length = m) (htl : ts.length = tm)
    (hpf : ∀ k, k < m → IsVar ts (ss.getD k ByteArray.empty) (pf k).1 (pf k).2) (hpl : ∀ k, k < m → (pf k).2 = true → (pf k).1 < tm) (hlen : ∀ i, i < arows.length → (arows.getD i []).length = tm) (hlo : ∀ i, i < arows.length → ∀ k, k < tm → -1 ≤ (arows.getD i []).getD k 0)
    (hn : arows.length ≤ 4096) (hB : B ≤ w.heap.size) (htb : Blk w tb 63 #[.slice V m vc, .slice none 0 0]) (hv : w.ownsRow B 9 1 (.slice V m vc) m (ss.map .string)) (htv : w.ownsRow Bt 9 1 (.slice TV tm tvc) tm (ts.map .string)) (har : RowsAt w Ba avr avals arows) :
    Calls Tryz.prog 70 #[.pointer (some ⟨tb, 0, none⟩), .agg #[.slice TV tm tvc, avr]] w (AsPost w B tb m vc V (arows.map (projRow pf m))) := by
  obtain ⟨AR, cR, hvr⟩ := row_shape har.own
  subst hvr
  have hf0 : Fr (fun _ => False) w (w.alloc (.cells #[.slice TV tm tvc, .slice AR arows.length cR] 63)) := (Fr.refl _ _).alloc _
  have HA := Lib.hid (Blk.new w 63 #[.slice TV tm tvc, .slice AR arows.length cR])
  have HF0 := Lib.hid hf0
  have HT := Lib.hid (htb.fr hf0 (fun h => h))
  have HV := Lib.hid (ownsRow_fr hv hf0 (fun _ _ h => h))
  have HTV := Lib.hid (ownsRow_fr htv hf0 (fun _ _ h => h))
  have HAR := Lib.hid (har.frF hf0)
  have htl2 := htb.lt
  have HVL := Lib.hid (fun j h => (hv.lt j h).2)
  have HTL := Lib.hid (fun j h => (htv.lt j h).2)
  have HRL := Lib.hid (fun j h => (har.own.lt j h).2)
  have HEL := Lib.hid (fun i hi j h => ((har.each i hi).lt j h).2)
  have HPF := Lib.hid hpf
  have HPL := Lib.hid hpl
  have HLEN := Lib.hid hlen
  have HLO := Lib.hid hlo
  clear htb hv htv har hf0 hpf hpl hlen hlo
  go_enter Tryz.func70, Tryz.ntmps70
  go_wp2_with fail
  have hsz1 : w.heap.size + 1 = (w.alloc (.cells #[.slice TV tm tvc, .slice AR arows.length cR] 63)).heap.size := by simp
  have HSZ := Lib.hid hsz1
  clear hsz1
  generalize w.alloc (.cells #[.slice TV tm tvc, .slice AR arows.length cR] 63) = w1 at *
  go_loopw [9] (fun iv wr => ∃ (k : Nat) (vr : Value) (vals : List Value), iv = .int .i64 (k : Int) ∧ k ≤ arows.length ∧ AsInv w1 wr (w.heap.size + 1) B tb m vc V vr vals ((arows.take k).map (projRow pf m))) (fun iv _ => arows.length - (intOf iv).toNat)
  case atStart => exact ⟨0, _, [], rfl, Nat.zero_le _, ⟨HT.out, ⟨World.ownsRow_nil _ _ _ _, fun i hi => absurd hi (by simp)⟩, (fun j h => by cases h), Fr.refl _ _⟩⟩
  case round =>
    obtain ⟨k, vr, vals, rfl, hk, hi⟩ := hrel
    have HI := Lib.hid hi
    have hne : ∀ j, j < w.heap.size → j ≠ tb → ¬ (j = tb ∨ w.heap.size + 1 ≤ j) := fun j h1 h2 h => h.elim h2 (fun h => by omega)
    have hsz := hi.fr.size
    have hS := HSZ.out
    have hblk := HA.out.fr hi.fr (fun h => by rcases h with h | h <;> omega)
    have hvN : ∀ j, (Value.slice V m vc).ownBlock = some j → j ≠ tb := fun j hj e => own_blk_ne HV.out HT.out (by decide) (by rw [← e]; exact hj)
    have htN : ∀ j, (Value.slice TV tm tvc).ownBlock = some j → j ≠ tb := fun j hj e => own_blk_ne HTV.out HT.out (by decide) (by rw [← e]; exact hj)
    have hrN : ∀ j, (Value.slice AR arows.length cR).ownBlock = some j → j ≠ tb := fun j hj e => own_blk_ne HAR.out.own HT.out (by decide) (by rw [← e]; exact hj)
    have heN : ∀ i, i < arows.length → ∀ j, (avals.getD i undef).ownBlock = some j → j ≠ tb := fun i hi j hj e => own_blk_ne (HAR.out.each i hi) HT.out (by decide) (by rw [← e]; exact hj)
    have hv2 := ownsRow_fr HV.out hi.fr (fun j hj => hne j (HVL.out j hj) (hvN j hj))
    have htv2 := ownsRow_fr HTV.out hi.fr (fun j hj => hne j (HTL.out j hj) (htN j hj))
    have har2 := HAR.out.fr hi.fr (fun j hj => hne j (HRL.out j hj) (hrN j hj)) (fun i hi2 j hj => hne j (HEL.out i hi2 j hj) (heN i hi2 j hj))
    by_cases hlt : k < arows.length
    · have hlt' : (k : Int) < (arows.length : Int) := by omega
      obtain ⟨ag, rfl, _, _, _⟩ := row_form har2.own (by omega)
      obtain ⟨XA, xc, hxv⟩ := row_shape (har2.each k hlt)
      have hxl := HLEN.out k hlt
      rw [hxl] at hxv
      have ck : wr.cell? ⟨ag, k, none⟩ = some (.slice XA tm xc) := by
        have h1 := World.ownsRow.cellAt har2.own k (by have := har2.len; omega)
        rw [h1, ← hxv, List.getD_eq_getElem?_getD, List.getElem?_eq_getElem (by have := har2.len; omega)]
        rfl
      have a1 : wr.cell? ⟨w.heap.size, 1, none⟩ = some (.slice (some ⟨ag, 0, none⟩) arows.length cR) := hblk.cell 1
      have hxr : IntRow wr Ba (.slice XA tm xc) (arows.getD k []) := by have := har2.each k hlt; rw [hxv] at this; exact this
      have hfa : Fr (fun _ => False) wr (wr.alloc (.cells #[.slice XA tm xc] 48)) := (Fr.refl _ _).alloc _
      have HG := Lib.hid (row_gen 130 #[.pointer (some ⟨w.heap.size, 0, none⟩), .pointer (some ⟨wr.heap.size, 0, none⟩)] tb m vc B V vr vals ((arows.take k).map (projRow pf m)) ss (projRow pf m (arows.getD k [])) (wr.alloc (.cells #[.slice XA tm xc] 48)) hss (projRow_len _ _ _)
        (fun j hj => by
          rw [projRow_get pf m _ hj]
          exact valN_ge _ _ _ (fun q hq => HLO.out k hlt q (by omega)) (fun h => by rw [hxl]; exact HPL.out j hj h))
        hm (by simp; omega) (by simp; omega) enters130
        (fun w2 j hj hf2 => by
          have hf3 : Fr (fun j => wr.heap.size + 1 ≤ j) (wr.alloc (.cells #[.slice XA tm xc] 48)) w2 := hf2.mono (fun q hq h => by simp at h; omega)
          rw [projRow_get pf m _ hj]
          refine read130 (ss.getD j ByteArray.empty) w.heap.size wr.heap.size tm tvc arows.length cR xc Bt Ba (pf j).1 TV (some ⟨ag, 0, none⟩) XA ts (arows.getD k []) (pf j).2 w2 ht (HPF.out j hj) hxl ?_ ?_ ?_ ?_
          · exact (hblk.fr hfa (fun h => h)).fr hf3 (fun h => by omega)
          · exact (Blk.new wr 48 #[.slice XA tm xc]).fr hf3 (fun h => by omega)
          · exact ownsRow_fr (ownsRow_fr htv2 hfa (fun _ _ h => h)) hf3 (fun q hq h => by have := HTL.out q hq; omega)
          · exact ownsRow_fr (ownsRow_fr hxr hfa (fun _ _ h => h)) hf3 (fun q hq h => by have := (hxr.lt q hq).2; omega))
        (hi.tab.fr hfa (fun h => h)) (ownsRow_fr hv2 hfa (fun _ _ h => h)) (hi.rows.frF hfa))
      have HTK := Lib.hid (show (arows.take (k + 1)).map (projRow pf m) = (arows.take k).map (projRow pf m) ++ [projRow pf m (arows.getD k [])] by
        rw [List.take_add_one, List.getD_eq_getElem?_getD, List.getElem?_eq_getElem hlt, List.map_append]; rfl)
      have hmf : ∀ (fn : Fn) (first cap : Array Value) (w : World), (Instr.makeFunc fn first cap).run Tryz.prog w = .ok (.func fn first cap) w := fun _ _ _ _ => rfl
      have hlb := hblk.lt
      have HFA := Lib.hid hfa
      clear hblk hv2 htv2 har2 hxr hfa hi hvN htN hrN heN hne hxv
      go_wp2_with fail
      refine HG.out.mono ?_
      rintro e w3 ⟨rfl, vr', vals', hb3, hr3, hf3, hnew, _, _⟩
      have HI3 := Lib.hid (show AsInv w1 w3 (w.heap.size + 1) B tb m vc V vr' vals' ((arows.take (k + 1)).map (projRow pf m)) from
        ⟨hb3, by rw [HTK.out]; exact hr3, fun j hj => by
          rcases hnew j hj with h | h
          · exact HI.out.new j h
          · simp at h; omega,
          (HI.out.fr.trans HFA.out (fun _ _ h => h.elim)).trans hf3 (fun j hj h => h.elim .inl (fun h => .inr (HI.out.new j h)))⟩)
      clear hb3 hr3 hf3 hnew
      go_wp2_with fail
      go_roundw
      case rel => exact ⟨k + 1, vr', vals', by go_num, by omega, HI3.out⟩
      case measure => simp only [intOf]; omega
    · have hlt' : ¬ (k : Int) < (arows.length : Int) := by omega
      have HTK := Lib.hid (show arows.take k = arows from List.take_of_length_le (by omega))
      have HFF := Lib.hid ((HF0.out.mono (T := fun j => j = tb) (fun _ _ h => h.elim)).trans (T := fun j => j = tb ∨ w.heap.size + 1 ≤ j) hi.fr (fun j hj h => h.elim id (fun h => by omega)))
      clear hblk hv2 htv2 har2 hi hvN htN hrN heN hne
      go_wp2_with fail
      go_end0
      exact ⟨rfl, vr, vals, HI.out.tab, by have h := HI.out.rows; rw [HTK.out] at h; exact h, HFF.out⟩

theorem inf63 : (Tryz.prog.info? 63).map (·.size) = some 2 := by kernel_rfl
def VarsPost (w : World) (m : Nat) (ss : List ByteArray) (e : Ending) (w' : World) : Prop :=
  ∃ V c, e = .returned (.slice V m c) ∧ w'.ownsRow w.heap.size 9 1 (.slice V m c) m (ss.map .string) ∧ Fr (fun _ => False) w w'

set_option maxRecDepth 100000 in
set_option maxHeartbeats 40000000 in
/-- Some vars of a table alone. -/
theorem project_any (pf : Nat → Nat × Bool) (m tm tvc Ba Bt nn nc : Nat) (TV N : Option Addr) (ts ss : List ByteArray) (avr : Value) (avals : List Value) (arows : List (List Int)) (w : World) (hm : m ≤ 4096) (ht : tm ≤ 4096) (hss : ss.length = m) (htl : ts.length = tm)
    (hpf : ∀ k, k < m → IsVar ts (ss.getD k ByteArray.empty) (pf k).1 (pf k).2) (hpl : ∀ k, k < m → (pf k).2 = true → (pf k).1 < tm) (hlen : ∀ i, i < arows.length → (arows.getD i []).length = tm) (hlo : ∀ i, i < arows.length → ∀ k, k < tm → -1 ≤ (arows.getD i []).getD k 0)
    (hn : arows.length ≤ 4096) (hvars : ∀ w1, Fr (fun _ => False) w w1 → Calls Tryz.prog 69 #[.slice N nn nc] w1 (VarsPost w1 m ss)) (htv : w.ownsRow Bt 9 1 (.slice TV tm tvc) tm (ts.map .string)) (har : RowsAt w Ba avr avals arows) :
    Calls Tryz.prog 21 #[.agg #[.slice TV tm tvc, avr], .slice N nn nc] w fun e w' => ∃ tv, e = .returned tv ∧ IsTable w' w.heap.size m tv ss (arows.map (projRow pf m)) ∧ Fr (fun _ => False) w w' := by
  obtain ⟨AR, cR, hvr⟩ := row_shape har.own
  subst hvr
  have hf0 : Fr (fun _ => False) w ((w.alloc (.cells #[.slice TV tm tvc, .slice AR arows.length cR] 63)).alloc (.cells #[.slice none 0 0, .slice none 0 0] 63)) := ((Fr.refl _ _).alloc _).alloc _
  have hz1 : (w.alloc (.cells #[.slice TV tm tvc, .slice AR arows.length cR] 63)).heap.size = w.heap.size + 1 := by simp
  have hz2 : ((w.alloc (.cells #[.slice TV tm tvc, .slice AR arows.length cR] 63)).alloc (.cells #[.slice none 0 0, .slice none 0 0] 63)).heap.size = w.heap.size + 2 := by simp
  have HA := Lib.hid ((Blk.new w 63 #[.slice TV tm tvc, .slice AR arows.length cR]).alloc (.cells #[.slice none 0 0, .slice none 0 0] 63))
  have hy := Blk.new (w.alloc (.cells #[.slice TV tm tvc, .slice AR arows.length cR] 63)) 63 #[.slice none 0 0, .slice none 0 0]
  rw [hz1] at hy
  have HY := Lib.hid hy
  have HF0 := Lib.hid hf0
  have HVA := Lib.hid (hvars _ hf0)
  have HTV := Lib.hid (ownsRow_fr htv hf0 (fun _ _ h => h))
  have HAR := Lib.hid (har.frF hf0)
  have HASC := Lib.hid (fun tb vc B V w hB htb hv htv har => as_any pf tb m vc tm tvc Ba Bt B V TV ts ss (.slice AR arows.length cR) avals arows w hm ht hss htl hpf hpl hlen hlo hn hB htb hv htv har)
  have HZ2 := Lib.hid hz2
  clear hvars htv har hf0 hpf hpl hlen hlo hy hz1 hz2 hss htl
  generalize arows.map (projRow pf m) = prow at *
  go_enter Tryz.func21, Tryz.ntmps21
  go_wp2_with fail
  refine HVA.out.mono ?_
  rintro e w2 ⟨V, vc, rfl, hv2, hf2⟩
  have hA2 := HA.out.fr hf2 (fun h => h)
  have HY2 := Lib.hid (HY.out.fr hf2 (fun h => h))
  have HTV2 := Lib.hid (ownsRow_fr HTV.out hf2 (fun _ _ h => h))
  have HAR2 := Lib.hid (HAR.out.frF hf2)
  have HF2 := Lib.hid (HF0.out.trans' hf2)
  have hsz2 := hf2.size
  have hz := HZ2.out
  rw [hz] at hsz2 hv2
  have hfa : Fr (fun _ => False) w2 (w2.alloc (.cells #[.slice V m vc, .slice none 0 0] 63)) := (Fr.refl _ _).alloc _
  have HT3 := Lib.hid (Blk.new w2 63 #[.slice V m vc, .slice none 0 0])
  have hA3 := hA2.fr hfa (fun h => h)
  have a0 : w2.cell? ⟨w.heap.size, 0, none⟩ = some (.slice TV tm tvc) := hA2.cell 0
  have a1 : w2.cell? ⟨w.heap.size, 1, none⟩ = some (.slice AR arows.length cR) := hA2.cell 1
  have HC := Lib.hid (HASC.out w2.heap.size vc w.heap.size V _ (by simp; omega) HT3.out (ownsRow_base (ownsRow_fr hv2 hfa (fun _ _ h => h)) (by omega)) (ownsRow_fr HTV2.out hfa (fun _ _ h => h)) (HAR2.out.frF hfa))
  have HV3 := Lib.hid (ownsRow_base (ownsRow_fr hv2 hfa (fun _ _ h => h)) (show w.heap.size ≤ w.heap.size + 2 by omega))
  have HY3 := Lib.hid (HY2.out.fr hfa (fun h => h))
  have HF3 := Lib.hid (HF2.out.trans' hfa)
  have hltA := hA2.lt
  clear hv2 hf2 hA2 hA3 hfa hz
  go_wp2_with fail
  refine HC.out.mono ?_
  rintro e w4 ⟨rfl, vr, vals, hb4, hr4, hf4⟩
  obtain ⟨A4, c4, hv4⟩ := row_shape hr4.own
  subst hv4
  have t0 : w4.cell? ⟨w2.heap.size, 0, none⟩ = some (.slice V m vc) := hb4.cell 0
  have t1 : w4.cell? ⟨w2.heap.size, 1, none⟩ = some (.slice A4 prow.length c4) := hb4.cell 1
  have hy4 := HY3.out.fr hf4 (fun e => by omega)
  have hst := Blk.setAll (vs := [.slice V m vc, .slice A4 prow.length c4]) (old := [.slice none 0 0, .slice none 0 0]) hy4 rfl
  have HTH := Lib.hid (Blk.there (cs := [.slice none 0 0, .slice none 0 0]) hy4 (n := 2) rfl)
  have HST := Lib.hid hst.1
  have hv4' := ownsRow_fr HV3.out hf4 (fun j hj e => own_blk_ne HV3.out HT3.out (by decide) (by rw [← e]; exact hj))
  have HV5 := Lib.hid (ownsRow_fr hv4' hst.2 (fun j hj e => own_blk_ne hv4' hy4 (by decide) (by rw [← e]; exact hj)))
  have HR5 := Lib.hid (hr4.frB hy4 (by decide) (by decide) hst.2)
  have HFF := Lib.hid ((HF3.out.trans hf4 (fun j hj e => by omega)).trans hst.2 (fun j hj e => by omega))
  have HONE := Lib.hid (show (#[.slice V m vc, .slice A4 prow.length c4] : Array Value).all (·.oneCell') = true from all_oneCell_toArray (by intro v hv; simp only [List.mem_cons, List.not_mem_nil, or_false] at hv; rcases hv with rfl | rfl <;> rfl))
  have hl4 := hy4.lt
  clear hb4 hr4 hf4 hy4 hst hv4' a0 a1
  go_wp2_with (refine wpList_store_mid rfl 63 _ _ rfl _ _ _ rfl rfl HTH.out inf63 HONE.out ?_)
  exact bodyPost_ret (v := .agg #[.slice V m vc, .slice A4 prow.length c4]) (results_cell_row rfl _ _ (w.heap.size + 1) 63 _ (0, 0) _ rfl HST.out Tryz.underlying63 rfl (by kernel_rfl)) rfl ⟨_, rfl, ⟨V, vc, _, _, rfl, HV5.out, HR5.out⟩, HFF.out⟩

end Go.Proofs.YtebddgdkndmpjaaGreatDoor
