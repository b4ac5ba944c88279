/- Terms compared; a map whose keys are terms. -/
import Derived.Test.YtebddgdkndmpjaaGreatDoorGi
import Derived.Laws.StructEq
import Derived.Deep.CutBlock
import Derived.Deep.RegionLawGrows
import Derived.Deep.Cut
import Derived.Deep.CutRange
import Derived.WalkKit
import Derived.WalkLawsBesides
import Derived.WalkSpells
import Derived.Deep.QuietTactic
import Derived.BigRegion
import Derived.BigQuiet
import Derived.Lib.Hide
import Derived.Outline
import Derived.Deep.AppendLies
import Derived.Deep.RegionLaw
import Derived.Deep.RegionWith
import Derived.Deep.RegionHeld3
import Derived.Deep.LoopGhost
import Derived.Deep.DeepFit
import Derived.Laws.ResultCell
import Derived.Laws.RangeAny
import Derived.Deep.MidRow
import Derived.StillTailTactics
import Derived.OpenShut
namespace Go.Proofs.YtebddgdkndmpjaaGreatDoor
set_option linter.unusedVariables false
open Go.RowKit Go

theorem eq_if_l (x y : Value) (w : World) : (Op.equal 35 (.iface 78 x) (.iface 78 y)).run Tryz.prog w = (Op.equalIn 9999 78 x y).run Tryz.prog w := by kernel_rfl
theorem eq_if_i (x y : Value) (w : World) : (Op.equal 35 (.iface 198 x) (.iface 198 y)).run Tryz.prog w = (Op.equalIn 9999 198 x y).run Tryz.prog w := by kernel_rfl
theorem eq_if_b (x y : Value) (w : World) : (Op.equal 35 (.iface 196 x) (.iface 196 y)).run Tryz.prog w = (Op.equalIn 9999 196 x y).run Tryz.prog w := by kernel_rfl
theorem eq_no1 (x y : Value) (w : World) : (Op.equal 35 (.iface 78 x) (.iface 198 y)).run Tryz.prog w = .ok false w := by kernel_rfl
theorem eq_no2 (x y : Value) (w : World) : (Op.equal 35 (.iface 78 x) (.iface 196 y)).run Tryz.prog w = .ok false w := by kernel_rfl
theorem eq_no3 (x y : Value) (w : World) : (Op.equal 35 (.iface 198 x) (.iface 78 y)).run Tryz.prog w = .ok false w := by kernel_rfl
theorem eq_no4 (x y : Value) (w : World) : (Op.equal 35 (.iface 198 x) (.iface 196 y)).run Tryz.prog w = .ok false w := by kernel_rfl
theorem eq_no5 (x y : Value) (w : World) : (Op.equal 35 (.iface 196 x) (.iface 78 y)).run Tryz.prog w = .ok false w := by kernel_rfl
theorem eq_no6 (x y : Value) (w : World) : (Op.equal 35 (.iface 196 x) (.iface 198 y)).run Tryz.prog w = .ok false w := by kernel_rfl

theorem eq_lit (a b c a' b' c' : ByteArray) (w : World) : (Op.equalIn 9999 78 (.agg #[.string a, .string b, .string c]) (.agg #[.string a', .string b', .string c'])).run Tryz.prog w = .ok ((a.toList == a'.toList) && ((b.toList == b'.toList) && (c.toList == c'.toList))) w := by
  rw [show (9999 : Nat) = 9998 + 1 from rfl]
  rw [run_equalIn_agg w 9998 78 _ _ (by kernel_rfl) (by kernel_rfl)]
  have u9 := Tryz.underlying9
  have a9 := Tryz.isAgg9
  simp only [Program.fieldsOf, Tryz.underlying78]
  go_simp
  by_cases h1 : a.toList = a'.toList <;> by_cases h2 : b.toList = b'.toList <;> by_cases h3 : c.toList = c'.toList <;> simp [h1, h2, h3]
theorem eq_iri (a a' : ByteArray) (w : World) : (Op.equalIn 9999 198 (.agg #[.string a]) (.agg #[.string a'])).run Tryz.prog w = .ok (a.toList == a'.toList) w := by
  rw [show (9999 : Nat) = 9998 + 1 from rfl]
  rw [run_equalIn_agg w 9998 198 _ _ (by kernel_rfl) (by kernel_rfl)]
  have u9 := Tryz.underlying9
  have a9 := Tryz.isAgg9
  simp only [Program.fieldsOf, Tryz.underlying198]
  go_simp
  by_cases h1 : a.toList = a'.toList <;> simp [h1]
theorem eq_bla (a a' : ByteArray) (w : World) : (Op.equalIn 9999 196 (.agg #[.string a]) (.agg #[.string a'])).run Tryz.prog w = .ok (a.toList == a'.toList) w := by
  rw [show (9999 : Nat) = 9998 + 1 from rfl]
  rw [run_equalIn_agg w 9998 196 _ _ (by kernel_rfl) (by kernel_rfl)]
  have u9 := Tryz.underlying9
  have a9 := Tryz.isAgg9
  simp only [Program.fieldsOf, Tryz.underlying196]
  go_simp
  by_cases h1 : a.toList = a'.toList <;> simp [h1]

theorem bytes_inj {a b : ByteArray} : a.toList = b.toList ↔ a = b := by
  constructor
  · intro h
    have := beq_toListBytes a b
    rw [h] at this
    have h2 : (a.data == b.data) = true := by
      have h3 : (a == b) = true := by rw [this]; simp
      exact h3
    exact ByteArray.ext (eq_of_beq h2)
  · rintro rfl; rfl

theorem eq_tm (t u : Tm) (w : World) : ∃ b : Bool, (Op.equal 35 t.val u.val).run Tryz.prog w = .ok b w ∧ (b = true ↔ t = u) := by
  cases t with
  | bla a => cases u with
    | bla a' => exact ⟨_, (eq_if_b _ _ w).trans (eq_bla a a' w), by simp [bytes_inj]⟩
    | iri a' => exact ⟨_, eq_no6 _ _ w, by simp⟩
    | lit a' b' c' => exact ⟨_, eq_no5 _ _ w, by simp⟩
  | iri a => cases u with
    | bla a' => exact ⟨_, eq_no4 _ _ w, by simp⟩
    | iri a' => exact ⟨_, (eq_if_i _ _ w).trans (eq_iri a a' w), by simp [bytes_inj]⟩
    | lit a' b' c' => exact ⟨_, eq_no3 _ _ w, by simp⟩
  | lit a b c => cases u with
    | bla a' => exact ⟨_, eq_no2 _ _ w, by simp⟩
    | iri a' => exact ⟨_, eq_no1 _ _ w, by simp⟩
    | lit a' b' c' => exact ⟨_, (eq_if_l _ _ w).trans (eq_lit a b c a' b' c' w), by simp [bytes_inj]⟩

theorem key_bla (e : Bool) (a : ByteArray) (w : World) : (Instr.checkKey e 10000 35 (Tm.bla a).val).run Tryz.prog w = .ok () w := by kernel_rfl
theorem key_iri (e : Bool) (a : ByteArray) (w : World) : (Instr.checkKey e 10000 35 (Tm.iri a).val).run Tryz.prog w = .ok () w := by kernel_rfl
theorem key_lit (e : Bool) (a b c : ByteArray) (w : World) : (Instr.checkKey e 10000 35 (Tm.lit a b c).val).run Tryz.prog w = .ok () w := by kernel_rfl
theorem key_tm (e : Bool) (t : Tm) (w : World) : (Instr.checkKey e 10000 35 t.val).run Tryz.prog w = .ok () w := by
  cases t with
  | bla a => exact key_bla e a w
  | iri a => exact key_iri e a w
  | lit a b c => exact key_lit e a b c w

/-- A map's entries: the terms of a list, each with its place. -/
def EsIs : Nat → List MapEntry → List Tm → Prop
  | _, [], [] => True
  | n, e :: es, t :: ts => e.key = t.val ∧ e.val = .int .i64 (n : Int) ∧ EsIs (n + 1) es ts
  | _, _, _ => False

open Classical in
noncomputable def idxT : List Tm → Tm → Option Nat
  | [], _ => none
  | u :: us, t => if t = u then some 0 else (idxT us t).map (· + 1)

theorem find_tm (t : Tm) (w : World) : ∀ (n i : Nat) (es : List MapEntry) (ts : List Tm), EsIs n es ts →
    (Instr.findAsking 35 t.val es i).run Tryz.prog w = .ok ((idxT ts t).map fun j => (i + j, Value.int .i64 ((n + j : Nat) : Int))) w
  | n, i, [], [], _ => by simp [Instr.findAsking, idxT]
  | n, i, [], _ :: _, h => by cases h
  | n, i, _ :: _, [], h => by cases h
  | n, i, e :: es, u :: us, h => by
    obtain ⟨h1, h2, h3⟩ := h
    obtain ⟨b, hb, hiff⟩ := eq_tm t u w
    have ih := find_tm t w (n + 1) (i + 1) es us h3
    rw [← h1] at hb
    unfold Instr.findAsking idxT
    cases b with
    | true =>
      rw [if_pos (hiff.1 rfl)]
      simp [hb, h2]
    | false =>
      have hne : ¬ t = u := fun e => by have := hiff.2 e; cases this
      rw [if_neg hne]
      simp only [Sem.run_bind, hb, Result.andThen_ok, Bool.false_eq_true, if_false, ih]
      cases idxT us t with
      | none => rfl
      | some j =>
        simp only [Option.map_some]
        rw [show i + 1 + j = i + (j + 1) by omega, show n + 1 + j = n + (j + 1) by omega]

theorem findKey_tm (t : Tm) (w : World) (es : List MapEntry) (ts : List Tm) (h : EsIs 0 es ts) :
    (Instr.findKey 35 t.val es).run Tryz.prog w = .ok ((idxT ts t).map fun j => (j, Value.int .i64 (j : Int))) w := by
  have h2 := find_tm t w 0 0 es ts h
  simp only [Nat.zero_add] at h2
  rw [← h2]
  cases es with
  | nil => simp [Instr.findKey, run_underlying Tryz.underlying35, Instr.findNow, Instr.findAsking]
  | cons e es => simp [Instr.findKey, run_underlying Tryz.underlying35, Instr.findNow, Instr.sameNow]

/-- A map of terms. -/
def MapAt (w : World) (r : Nat) (ts : List Tm) : Prop := ∃ (es : Array MapEntry) (clock : Nat), w.heap[r]? = some (.map es clock) ∧ EsIs 0 es.toList ts
def World.mapSet (w : World) (r : Nat) (o : Obj) : World := { w with heap := w.heap.setIfInBounds r o }

theorem run_lookup_tm {w : World} {r : Nat} {ts : List Tm} (h : MapAt w r ts) (t : Tm) :
    (Instr.lookup 147 (.map (some r)) t.val true).run Tryz.prog w = .ok (.tuple #[.int .i64 (((idxT ts t).getD 0 : Nat) : Int), .bool (idxT ts t).isSome]) w := by
  obtain ⟨es, clock, hg, he⟩ := h
  have hf := findKey_tm t w es.toList ts he
  have hz : (zeroValue 3).run Tryz.prog w = .ok (.int .i64 0) w := by kernel_rfl
  have hget : (getObj r).run Tryz.prog w = .ok (.map es clock) w := by simp [getObj, Sem.run, hg]
  simp only [Instr.lookup, Sem.run_bind, run_underlying Tryz.underlying147, Result.andThen_ok, hget, Sem.run_pure, key_tm, hf]
  cases idxT ts t with
  | none => simp [hz]
  | some j => simp

theorem EsIs.push {t : Tm} : ∀ (n : Nat) (es : List MapEntry) (ts : List Tm) (c : Nat), EsIs n es ts → EsIs n (es ++ [{ key := t.val, val := .int .i64 ((n + ts.length : Nat) : Int), born := c }]) (ts ++ [t])
  | n, [], [], c, _ => ⟨rfl, rfl, trivial⟩
  | n, [], _ :: _, c, h => by cases h
  | n, _ :: _, [], c, h => by cases h
  | n, e :: es, u :: us, c, h => by
    obtain ⟨h1, h2, h3⟩ := h
    have ih := EsIs.push (t := t) (n + 1) es us c h3
    refine ⟨h1, h2, ?_⟩
    rw [show n + (u :: us).length = n + 1 + us.length by simp; omega]
    exact ih

theorem run_mapUpdate_tm {w : World} {r : Nat} {ts : List Tm} (h : MapAt w r ts) (t : Tm) (hn : idxT ts t = none) :
    ∃ w', (Instr.mapUpdate 147 (.map (some r)) t.val (.int .i64 (ts.length : Int))).run Tryz.prog w = .ok () w' ∧ MapAt w' r (ts ++ [t]) ∧ Fr (fun j => j = r) w w' := by
  obtain ⟨es, clock, hg, he⟩ := h
  have hf := findKey_tm t w es.toList ts he
  rw [hn] at hf
  have hget : (getObj r).run Tryz.prog w = .ok (.map es clock) w := by simp [getObj, Sem.run, hg]
  have hlt : r < w.heap.size := (Array.getElem?_eq_some_iff.1 hg).1
  refine ⟨World.mapSet w r (.map (es.push { key := t.val, val := .int .i64 (ts.length : Int), born := clock }) (clock + 1)), ?_, ⟨es.push { key := t.val, val := .int .i64 (ts.length : Int), born := clock }, clock + 1, by simp [World.mapSet, hlt], ?_⟩, ⟨rfl, rfl, rfl, by simp [World.mapSet], fun k hk hne => ?_⟩⟩
  · simp only [Instr.mapUpdate, Sem.run_bind, run_underlying Tryz.underlying147, Result.andThen_ok, hget, key_tm, hf, Option.map_none]
    have hg2 : w.heap[r] = Obj.map es clock := by
      rw [Array.getElem?_eq_getElem hlt] at hg
      exact Option.some.inj hg
    simp [setObj, Sem.run, hlt, World.mapSet, hg2]
  · have := EsIs.push (t := t) 0 es.toList ts clock he
    simpa using this
  · show (w.heap.setIfInBounds r _)[k]? = _
    rw [Array.getElem?_setIfInBounds_ne (fun e => hne e.symm)]

theorem MapAt.lt {w : World} {r : Nat} {ts : List Tm} (h : MapAt w r ts) : r < w.heap.size := by
  obtain ⟨es, clock, hg, _⟩ := h
  exact (Array.getElem?_eq_some_iff.1 hg).1
theorem MapAt.fr {S : Nat → Prop} {w w' : World} {r : Nat} {ts : List Tm} (h : MapAt w r ts) (hf : Fr S w w') (hn : ¬ S r) : MapAt w' r ts := by
  have hl := h.lt
  obtain ⟨es, clock, hg, he⟩ := h
  exact ⟨es, clock, (hf.block r hl hn).trans hg, he⟩

end Go.Proofs.YtebddgdkndmpjaaGreatDoor
