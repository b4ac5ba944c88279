/- Groups: what is asked of a group, walked. -/
import Derived.Test.YtflhmieeidnpgaaGreatDoorHa
import Derived.Deep.CutBlock
import Derived.Deep.RegionLawGrows
import Derived.Deep.Cut
import Derived.Deep.CutRange
import Derived.WalkKit
import Derived.WalkLawsBesides
import Derived.WalkSpells
import Derived.Deep.QuietTactic
import Derived.BigRegion
import Derived.BigQuiet
import Derived.Lib.Hide
import Derived.Outline
import Derived.Deep.AppendLies
import Derived.Deep.RegionLaw
import Derived.Deep.RegionWith
import Derived.Deep.RegionHeld3
import Derived.Deep.LoopGhost
import Derived.Deep.DeepFit
import Derived.Laws.ResultCell
import Derived.Laws.RangeAny
import Derived.Deep.MidRow
import Derived.StillTailTactics
import Derived.OpenShut
namespace Go.Proofs.YtflhmieeidnpgaaGreatDoor
set_option linter.unusedVariables false
open Go.RowKit Go

theorem slice0 {w : World} {B e n : Nat} {v : Value} {xs : List Value} (h : w.ownsRow B e 1 v n xs) (hn : 0 < n) : ∃ g c, v = .slice (some ⟨g, 0, none⟩) n c ∧ w.cell? ⟨g, 0, none⟩ = some (xs.getD 0 undef) := by
  obtain ⟨g, c, rfl⟩ := row_pos h hn
  refine ⟨g, c, rfl, ?_⟩
  rw [World.ownsRow.cellAt h 0 (by omega), List.getD_eq_getElem?_getD, List.getElem?_eq_getElem (by have := h.1; omega)]
  rfl

set_option maxRecDepth 100000 in
set_option maxHeartbeats 400000 in
theorem differ_any (tb rb gb vg vc B n c rg rc gg gn gc hg hc p : Nat) (A : Option Addr) (v : ByteArray) (fnd : Bool) (xs ys : List Int) (w : World) (hv : IsVar v p fnd) (hx : xs.length = 3) (hy : ys.length = 3)
    (hs : w.ownsRow B 9 1 (.slice (some ⟨vg, 0, none⟩) 3 vc) 3 (abc.map .string))
    (hr : IntRow w B (.slice (some ⟨rg, 0, none⟩) 3 rc) xs) (hg' : IntRow w B (.slice (some ⟨hg, 0, none⟩) 3 hc) ys) (hn : 0 < gn)
    (t0 : w.cell? ⟨tb, 0, none⟩ = some (.slice (some ⟨vg, 0, none⟩) 3 vc)) (t1 : w.cell? ⟨tb, 1, none⟩ = some (.slice A n c)) (r0 : w.cell? ⟨rb, 0, none⟩ = some (.slice (some ⟨rg, 0, none⟩) 3 rc))
    (g1 : w.cell? ⟨gb, 1, none⟩ = some (.slice (some ⟨gg, 0, none⟩) gn gc)) (h0 : w.cell? ⟨gg, 0, none⟩ = some (.slice (some ⟨hg, 0, none⟩) 3 hc)) :
    Calls Tryz.prog 40 #[.string v, .pointer (some ⟨tb, 0, none⟩), .pointer (some ⟨rb, 0, none⟩), .pointer (some ⟨gb, 0, none⟩)] w (IsB (valN p fnd xs != valN p fnd ys) w) := by
  have HA := Lib.hid (fun wy (hf : Fr (fun _ => False) w wy) => value_any vg vc B B p n c A v fnd _ xs wy hv hx (ownsRow_fr hs hf (fun _ _ h => h)) (hr.fr hf (fun _ _ h => h)))
  have HB := Lib.hid (fun wy (hf : Fr (fun _ => False) w wy) => value_any vg vc B B p n c A v fnd _ ys wy hv hy (ownsRow_fr hs hf (fun _ _ h => h)) (hg'.fr hf (fun _ _ h => h)))
  have HS := Lib.hid (fun wy (hf : Fr (fun _ => False) w wy) => (⟨cell_fr hf t0, cell_fr hf t1, cell_fr hf r0, cell_fr hf g1, cell_fr hf h0⟩ : wy.cell? ⟨tb, 0, none⟩ = some (.slice (some ⟨vg, 0, none⟩) 3 vc) ∧ wy.cell? ⟨tb, 1, none⟩ = some (.slice A n c) ∧ wy.cell? ⟨rb, 0, none⟩ = some (.slice (some ⟨rg, 0, none⟩) 3 rc) ∧ wy.cell? ⟨gb, 1, none⟩ = some (.slice (some ⟨gg, 0, none⟩) gn gc) ∧ wy.cell? ⟨gg, 0, none⟩ = some (.slice (some ⟨hg, 0, none⟩) 3 hc)))
  have hn' : (0 : Int) < (gn : Int) := by omega
  clear hs hr hg' t0 t1 r0 g1 h0
  generalize valN p fnd xs = a at *
  generalize valN p fnd ys = b at *
  go_enter Tryz.func40, Tryz.ntmps40
  go_wp2_with fail
  go_region_held3 (fun w' => w'.cell? ⟨tb, 0, none⟩ = some (.slice (some ⟨vg, 0, none⟩) 3 vc) ∧ w'.cell? ⟨tb, 1, none⟩ = some (.slice A n c) ∧ w'.cell? ⟨rb, 0, none⟩ = some (.slice (some ⟨rg, 0, none⟩) 3 rc) ∧ w'.cell? ⟨gb, 1, none⟩ = some (.slice (some ⟨gg, 0, none⟩) gn gc) ∧ w'.cell? ⟨gg, 0, none⟩ = some (.slice (some ⟨hg, 0, none⟩) 3 hc))
    (first | exact HS.out _ F2 | exact HS.out _ F1 | exact HS.out _ (Fr.refl _ _).drew)
    ((go_at_call 11; first
      | ((with_reducible refine (HA.out _ F1).mono ?_); rintro e w2 ⟨rfl, hf2⟩; have F2 : Fr (fun _ => False) w w2 := F1.trans' hf2)
      | ((with_reducible refine (HB.out _ F1).mono ?_); rintro e w2 ⟨rfl, hf2⟩; have F2 : Fr (fun _ => False) w w2 := F1.trans' hf2)
      | ((with_reducible refine (HA.out _ ((Fr.refl _ _).drew)).mono ?_); rintro e w1 ⟨rfl, hf1⟩; have F1 : Fr (fun _ => False) w w1 := ((Fr.refl _ _).drew).trans' hf1)
      | ((with_reducible refine (HB.out _ ((Fr.refl _ _).drew)).mono ?_); rintro e w1 ⟨rfl, hf1⟩; have F1 : Fr (fun _ => False) w w1 := ((Fr.refl _ _).drew).trans' hf1)))
  all_goals (go_wp2_with fail)
  all_goals (go_ret; exact ⟨rfl, F2⟩)

/-- What an IndexFunc answers. -/
def IdxPost (f : Nat → Bool) (m : Nat) (w : World) (e : Ending) (w' : World) : Prop :=
  ∃ r : Int, e = .returned (.int .i64 r) ∧ Fr (fun _ => False) w w' ∧ ((∃ k : Nat, r = (k : Int) ∧ k < m ∧ f k = true ∧ ∀ j, j < k → f j = false) ∨ (r = -1 ∧ ∀ j, j < m → f j = false))
def anyB (f : Nat → Bool) (m : Nat) : Bool := (List.range m).any f
theorem anyB_true {f : Nat → Bool} {m k : Nat} (hk : k < m) (h : f k = true) : anyB f m = true := by
  unfold anyB
  rw [List.any_eq_true]
  exact ⟨k, List.mem_range.2 hk, h⟩
theorem anyB_false {f : Nat → Bool} {m : Nat} (h : ∀ j, j < m → f j = false) : anyB f m = false := by
  unfold anyB
  rw [List.any_eq_false]
  intro j hj
  rw [h j (List.mem_range.1 hj)]
  simp

set_option maxRecDepth 100000 in
set_option maxHeartbeats 4000000 in
theorem idx75 (bg bc m B : Nat) (ss : List ByteArray) (f : Nat → Bool) (c1 c2 c3 : Value) (w : World) (hm : m ≤ 4096)
    (hs : w.ownsRow B 9 1 (.slice (some ⟨bg, 0, none⟩) m bc) m (ss.map .string))
    (hc : ∀ j, j < m → ∀ wy, Fr (fun _ => False) w wy → Calls Tryz.prog 40 #[.string (ss.getD j ByteArray.empty), c1, c2, c3] wy (IsB (f j) wy)) :
    Calls Tryz.prog 75 #[.slice (some ⟨bg, 0, none⟩) m bc, .func (.func 40) #[] #[c1, c2, c3]] w (IdxPost f m w) := by
  have HS := Lib.hid hs
  have HC := Lib.hid hc
  clear hs hc
  go_enter Tryz.func75, Tryz.ntmps75
  go_wp2_with fail
  go_loopw [8] (fun iv wr => ∃ i : Nat, iv = .int .i64 (i : Int) ∧ i ≤ m ∧ Fr (fun _ => False) w wr ∧ ∀ j, j < i → f j = false) (fun iv _ => m - (intOf iv).toNat)
  case atStart => exact ⟨0, rfl, Nat.zero_le _, Fr.refl _ _, fun j hj => absurd hj (Nat.not_lt_zero _)⟩
  case round =>
    obtain ⟨i, rfl, hi, hf, hno⟩ := hrel
    have HF := Lib.hid hf
    have HNO := Lib.hid hno
    by_cases hlt : i < m
    · have hlt' : decide (i < m) = true := by simpa using hlt
      have c0 := str_cell (ownsRow_fr HS.out hf (fun _ _ h => h)) i hlt
      have hcall := HC.out i hlt wr hf
      generalize ss.getD i ByteArray.empty = x at *
      have HCALL := Lib.hid hcall
      clear hf hno hcall
      cases hfi : f i with
      | true =>
        rw [hfi] at HCALL
        have HFI := Lib.hid hfi
        clear hfi
        go_wp2_with fail
        refine HCALL.out.mono ?_
        rintro e w1 ⟨rfl, hf1⟩
        have HF1 := Lib.hid (HF.out.trans' hf1)
        clear hf1
        go_wp2_with fail
        go_ret
        exact ⟨_, rfl, HF1.out, .inl ⟨i, rfl, hlt, HFI.out, HNO.out⟩⟩
      | false =>
        rw [hfi] at HCALL
        have HFI := Lib.hid hfi
        clear hfi
        go_wp2_with fail
        refine HCALL.out.mono ?_
        rintro e w1 ⟨rfl, hf1⟩
        have HF1 := Lib.hid (HF.out.trans' hf1)
        clear hf1
        go_wp2_with fail
        go_roundw
        case rel => exact ⟨i + 1, by go_num, hlt, HF1.out, fun j hj => by
          by_cases e : j = i
          · rw [e]; exact HFI.out
          · exact HNO.out j (by omega)⟩
        case measure => simp [intOf]; omega
    · have hlt' : decide (i < m) = false := by simpa using hlt
      have him : i = m := by omega
      clear hf hno
      subst him
      go_wp2_with fail
      go_ret
      exact ⟨_, rfl, HF.out, .inr ⟨rfl, HNO.out⟩⟩

set_option maxRecDepth 100000 in
set_option maxHeartbeats 4000000 in
theorem has39 (bg bc m B : Nat) (ss : List ByteArray) (f : Nat → Bool) (c1 c2 c3 : Value) (w : World) (hm : m ≤ 4096)
    (hs : w.ownsRow B 9 1 (.slice (some ⟨bg, 0, none⟩) m bc) m (ss.map .string))
    (hc : ∀ j, j < m → ∀ wy, Fr (fun _ => False) w wy → Calls Tryz.prog 40 #[.string (ss.getD j ByteArray.empty), c1, c2, c3] wy (IsB (f j) wy)) :
    Calls Tryz.prog 39 #[.slice (some ⟨bg, 0, none⟩) m bc, .func (.func 40) #[] #[c1, c2, c3]] w (IsB (anyB f m) w) := by
  have HI := Lib.hid (idx75 bg bc m B ss f c1 c2 c3 w hm hs hc)
  clear hs hc
  go_enter Tryz.func39, Tryz.ntmps39
  go_wp2_with fail
  refine HI.out.mono ?_
  rintro e w1 ⟨r, rfl, hf, hr⟩
  have HF := Lib.hid hf
  have HR := Lib.hid hr
  clear hf hr
  by_cases h0 : (0 : Int) ≤ r
  · go_wp2_with fail
    go_ret
    refine IsB.of HF.out ?_
    rcases HR.out with ⟨k, rfl, hk, hfk, _⟩ | ⟨rfl, _⟩
    · exact anyB_true hk hfk
    · omega
  · go_wp2_with fail
    go_ret
    refine IsB.of HF.out ?_
    rcases HR.out with ⟨k, rfl, hk, hfk, _⟩ | ⟨rfl, hn⟩
    · omega
    · exact anyB_false hn

/-- A var of BY, and where it stands. -/
structure Key where
  v : ByteArray
  p : Nat
  fnd : Bool
instance : Inhabited Key := ⟨⟨ByteArray.empty, 0, false⟩⟩
def Key.val (k : Key) (xs : List Int) : Int := valN k.p k.fnd xs
def KeysOk (ks : List Key) : Prop := ∀ k, k ∈ ks → IsVar k.v k.p k.fnd
def alikeB (ks : List Key) (xs ys : List Int) : Bool := ks.all (fun k => k.val xs == k.val ys)
theorem alike_any (ks : List Key) (xs ys : List Int) : alikeB ks xs ys = !anyB (fun j => (ks.getD j default).val xs != (ks.getD j default).val ys) ks.length := by
  cases h : anyB (fun j => (ks.getD j default).val xs != (ks.getD j default).val ys) ks.length with
  | true =>
    unfold anyB at h
    rw [List.any_eq_true] at h
    obtain ⟨j, hj, h2⟩ := h
    rw [List.mem_range] at hj
    unfold alikeB
    rw [Bool.not_true, List.all_eq_false]
    refine ⟨ks.getD j default, ?_, ?_⟩
    · rw [List.getD_eq_getElem?_getD, List.getElem?_eq_getElem hj]
      exact List.getElem_mem hj
    · simpa using h2
  | false =>
    unfold anyB at h
    rw [List.any_eq_false] at h
    unfold alikeB
    rw [Bool.not_false, List.all_eq_true]
    intro k hk
    obtain ⟨j, hj, rfl⟩ := List.getElem_of_mem hk
    have h2 := h j (List.mem_range.2 hj)
    rw [List.getD_eq_getElem?_getD, List.getElem?_eq_getElem hj] at h2
    simpa using h2

set_option maxRecDepth 100000 in
set_option maxHeartbeats 4000000 in
theorem same38 (bb tb rb bg bc vg vc n c rg rc an ac B1 B2 B3 Bg : Nat) (A A2 : Option Addr) (vr : Value) (vals : List Value) (g : List (List Int)) (ks : List Key) (xs : List Int) (w : World) (hk : KeysOk ks) (hm : ks.length ≤ 4096)
    (hx : xs.length = 3) (hg3 : ∀ i, i < g.length → (g.getD i []).length = 3) (hgn : 0 < g.length)
    (hby : w.cell? ⟨bb, 0, none⟩ = some (.slice (some ⟨bg, 0, none⟩) ks.length bc)) (hs : w.ownsRow B1 9 1 (.slice (some ⟨bg, 0, none⟩) ks.length bc) ks.length ((ks.map Key.v).map .string))
    (t0 : w.cell? ⟨tb, 0, none⟩ = some (.slice (some ⟨vg, 0, none⟩) 3 vc)) (t1 : w.cell? ⟨tb, 1, none⟩ = some (.slice A n c)) (hv : w.ownsRow B2 9 1 (.slice (some ⟨vg, 0, none⟩) 3 vc) 3 (abc.map .string))
    (r0 : w.cell? ⟨rb, 0, none⟩ = some (.slice (some ⟨rg, 0, none⟩) 3 rc)) (hr : IntRow w B3 (.slice (some ⟨rg, 0, none⟩) 3 rc) xs) (hg : RowsAt w Bg vr vals g) :
    Calls Tryz.prog 38 #[.agg #[.slice A2 an ac, vr], .pointer (some ⟨bb, 0, none⟩), .pointer (some ⟨tb, 0, none⟩), .pointer (some ⟨rb, 0, none⟩)] w (IsB (alikeB ks xs (g.headD [])) w) := by
  obtain ⟨gg, gc, rfl, h0⟩ := slice0 hg.own hgn
  have he := hg.each 0 hgn
  obtain ⟨hg0, hgc, hv0⟩ := row_pos he (by rw [hg3 0 hgn]; omega)
  have hg30 := hg3 0 hgn
  have hhead : g.headD [] = g.getD 0 [] := by cases g <;> rfl
  rw [hhead, alike_any]
  rw [hv0] at h0 he
  generalize g.getD 0 [] = ys at *
  rw [hg30] at h0 he
  have HB := Lib.hid hby
  have F0 : Fr (fun _ => False) w (w.alloc (.cells #[.slice A2 an ac, .slice (some ⟨gg, 0, none⟩) g.length gc] 29)) := (Fr.refl _ _).alloc _
  have hbk := Blk.new w 29 #[.slice A2 an ac, .slice (some ⟨gg, 0, none⟩) g.length gc]
  have H39 := Lib.hid (has39 bg bc ks.length 0 (ks.map Key.v) (fun j => (ks.getD j default).val xs != (ks.getD j default).val ys) (.pointer (some ⟨tb, 0, none⟩)) (.pointer (some ⟨rb, 0, none⟩)) (.pointer (some ⟨w.heap.size, 0, none⟩))
    (w.alloc (.cells #[.slice A2 an ac, .slice (some ⟨gg, 0, none⟩) g.length gc] 29)) hm (ownsRow_base (ownsRow_fr hs F0 (fun _ _ h => h)) (Nat.zero_le _)) (fun j hj wy hy => by
      have e1 : (ks.map Key.v).getD j ByteArray.empty = (ks.getD j default).v := by
        rw [List.getD_eq_getElem?_getD, List.getD_eq_getElem?_getD, List.getElem?_map, List.getElem?_eq_getElem hj]
        rfl
      rw [e1]
      have F1 := F0.trans' hy
      have hkj : IsVar (ks.getD j default).v (ks.getD j default).p (ks.getD j default).fnd := hk _ (by
        rw [List.getD_eq_getElem?_getD, List.getElem?_eq_getElem hj]
        exact List.getElem_mem hj)
      have g1 : (w.alloc (.cells #[.slice A2 an ac, .slice (some ⟨gg, 0, none⟩) g.length gc] 29)).cell? ⟨w.heap.size, 1, none⟩ = some (.slice (some ⟨gg, 0, none⟩) g.length gc) := hbk.cell 1
      exact differ_any tb rb w.heap.size vg vc 0 n c rg rc gg g.length gc hg0 hgc _ A _ _ xs ys wy hkj hx hg30 (ownsRow_base (ownsRow_fr hv F1 (fun _ _ h => h)) (Nat.zero_le _)) (ownsRow_base (hr.fr F1 (fun _ _ h => h)) (Nat.zero_le _)) (ownsRow_base (he.fr F1 (fun _ _ h => h)) (Nat.zero_le _)) hgn
        (cell_fr F1 t0) (cell_fr F1 t1) (cell_fr F1 r0) (cell_fr hy g1) (cell_fr F1 h0)))
  generalize anyB (fun j => (ks.getD j default).val xs != (ks.getD j default).val ys) ks.length = b at *
  have hb := cell_fr F0 hby
  have HF0 := Lib.hid F0
  clear hs hv hr t0 t1 r0 hg he hbk h0 F0 hk hg3
  go_enter Tryz.func38, Tryz.ntmps38
  go_wp2_with fail
  refine H39.out.mono ?_
  rintro e w1 ⟨rfl, hf⟩
  go_wp2_with fail
  go_ret
  exact ⟨rfl, HF0.out.trans' hf⟩

end Go.Proofs.YtflhmieeidnpgaaGreatDoor
