/- Maps of strings: plain. -/
import Derived.Test.YtebddgdkndmpjaaGreatDoorGl
import Derived.Deep.CutBlock
import Derived.Deep.RegionLawGrows
import Derived.Deep.Cut
import Derived.Deep.CutRange
import Derived.WalkKit
import Derived.WalkLawsBesides
import Derived.WalkSpells
import Derived.Deep.QuietTactic
import Derived.BigRegion
import Derived.BigQuiet
import Derived.Lib.Hide
import Derived.Outline
import Derived.Deep.AppendLies
import Derived.Deep.RegionLaw
import Derived.Deep.RegionWith
import Derived.Deep.RegionHeld3
import Derived.Deep.LoopGhost
import Derived.Deep.DeepFit
import Derived.Laws.ResultCell
import Derived.Laws.RangeAny
import Derived.Deep.MidRow
import Derived.StillTailTactics
import Derived.OpenShut
namespace Go.Proofs.YtebddgdkndmpjaaGreatDoor
set_option linter.unusedVariables false
open Go.RowKit Go

theorem beq_ba (a b : ByteArray) : (a == b) = decide (a = b) := by
  have h := beq_toListBytes a b
  by_cases e : a = b
  · subst e
    rw [h, decide_eq_true rfl]
    simp
  · rw [h, decide_eq_false e]
    cases hh : (a.toList == b.toList) with
    | false => rfl
    | true => exact absurd (bytes_inj.1 (eq_of_beq hh)) e

/-- A map's entries: keys that are strings. -/
def SKeys (es : List MapEntry) : Prop := ∀ e ∈ es, ∃ s, e.key = .string s
def findS : List MapEntry → ByteArray → Nat → Option (Nat × Value)
  | [], _, _ => none
  | e :: es, k, i => match e.key with
    | .string s => if k = s then some (i, e.val) else findS es k (i + 1)
    | _ => none
/-- What stands for a key. -/
def lookS (es : List MapEntry) (k : ByteArray) : Option Value := (findS es k 0).map (·.2)
theorem find_now (k : ByteArray) : ∀ (es : List MapEntry) (i : Nat), SKeys es → Instr.findNow .string (.string k) es i = some (findS es k i)
  | [], _, _ => rfl
  | e :: es, i, h => by
    obtain ⟨s, hs⟩ := h e (List.mem_cons_self ..)
    have ih := find_now k es (i + 1) (fun x hx => h x (List.mem_cons_of_mem _ hx))
    unfold Instr.findNow findS
    rw [hs]
    simp only [Instr.sameNow, beq_ba]
    by_cases hk : k = s
    · subst hk
      simp
    · rw [decide_eq_false hk, if_neg hk]
      exact ih
theorem findS_shift (k : ByteArray) : ∀ (es : List MapEntry) (i : Nat), findS es k (i + 1) = (findS es k i).map fun p => (p.1 + 1, p.2)
  | [], _ => rfl
  | e :: es, i => by
    unfold findS
    cases e.key with
    | string s =>
      simp only
      by_cases hk : k = s
      · rw [if_pos hk, if_pos hk]; rfl
      · rw [if_neg hk, if_neg hk]; exact findS_shift k es (i + 1)
    | _ => rfl
theorem findS_push (k x : ByteArray) (v : Value) (c : Nat) : ∀ (es : List MapEntry) (i : Nat), SKeys es → findS es k i = none → (findS (es ++ [{ key := .string k, val := v, born := c }]) x i).map (·.2) = if x = k then some v else (findS es x i).map (·.2)
  | [], i, _, _ => by
    show (findS [{ key := .string k, val := v, born := c }] x i).map (·.2) = _
    unfold findS
    simp only
    by_cases hx : x = k
    · rw [if_pos hx, if_pos hx]; rfl
    · rw [if_neg hx, if_neg hx]; rfl
  | e :: es, i, h, hn => by
    obtain ⟨s, hs⟩ := h e (List.mem_cons_self ..)
    have hsk : SKeys es := fun x hx => h x (List.mem_cons_of_mem _ hx)
    unfold findS at hn
    rw [hs] at hn
    simp only at hn
    by_cases hk : k = s
    · rw [if_pos hk] at hn; cases hn
    · rw [if_neg hk] at hn
      have ih := findS_push k x v c es (i + 1) hsk hn
      show (findS (e :: (es ++ [_])) x i).map (·.2) = _
      unfold findS
      rw [hs]
      simp only
      by_cases hx : x = s
      · rw [if_pos hx, if_pos hx, if_neg (fun e => hk (e.symm.trans hx))]
      · rw [if_neg hx, if_neg hx]
        exact ih
theorem findS_mod (k x : ByteArray) (v : Value) : ∀ (es : List MapEntry) (i j : Nat) (u : Value), SKeys es → findS es k i = some (i + j, u) → (findS (es.modify j fun e => { e with key := .string k, val := v }) x i).map (·.2) = if x = k then some v else (findS es x i).map (·.2)
  | [], i, j, u, _, hn => by cases hn
  | e :: es, i, j, u, h, hn => by
    obtain ⟨s, hs⟩ := h e (List.mem_cons_self ..)
    have hsk : SKeys es := fun x hx => h x (List.mem_cons_of_mem _ hx)
    unfold findS at hn
    rw [hs] at hn
    simp only at hn
    by_cases hk : k = s
    · rw [if_pos hk] at hn
      have hj : j = 0 := by
        have h2 := congrArg Prod.fst (Option.some.inj hn)
        simp only at h2
        omega
      subst hj hk
      show (findS ({ e with key := .string k, val := v } :: es) x i).map (·.2) = _
      unfold findS
      rw [hs]
      simp only
      by_cases hx : x = k
      · rw [if_pos hx, if_pos hx]; rfl
      · rw [if_neg hx, if_neg hx, if_neg hx]
    · rw [if_neg hk] at hn
      cases j with
      | zero =>
        have h2 := findS_shift k es i
        rw [hn] at h2
        cases h3 : findS es k i with
        | none => rw [h3] at h2; cases h2
        | some p =>
          rw [h3] at h2
          have h4 := congrArg Prod.fst (Option.some.inj h2)
          simp only at h4
          have h5 := findS_ge k es i p h3
          omega
      | succ j =>
        have ih := findS_mod k x v es (i + 1) j u hsk (by rw [hn]; rw [show i + 1 + j = i + (j + 1) by omega])
        show (findS (e :: es.modify j _) x i).map (·.2) = _
        unfold findS
        rw [hs]
        simp only
        by_cases hx : x = s
        · rw [if_pos hx, if_pos hx, if_neg (fun e => hk (e.symm.trans hx))]
        · rw [if_neg hx, if_neg hx]
          exact ih
where
  findS_ge (k : ByteArray) : ∀ (es : List MapEntry) (i : Nat) (p : Nat × Value), findS es k i = some p → i ≤ p.1
    | [], i, p, h => by cases h
    | e :: es, i, p, h => by
      unfold findS at h
      cases he : e.key with
      | string s =>
        rw [he] at h
        simp only at h
        by_cases hk : k = s
        · rw [if_pos hk] at h
          have := congrArg Prod.fst (Option.some.inj h)
          simp only at this
          omega
        · rw [if_neg hk] at h
          have := findS_ge k es (i + 1) p h
          omega
      | _ => rw [he] at h; cases h
theorem SKeys.push {es : List MapEntry} (h : SKeys es) (k : ByteArray) (v : Value) (c : Nat) : SKeys (es ++ [{ key := .string k, val := v, born := c }]) := by
  intro e he
  rcases List.mem_append.1 he with h1 | h1
  · exact h e h1
  · rw [List.mem_singleton] at h1
    subst h1
    exact ⟨k, rfl⟩
theorem SKeys.mod : ∀ {es : List MapEntry} (j : Nat) (k : ByteArray) (v : Value), SKeys es → SKeys (es.modify j fun e => { e with key := .string k, val := v })
  | [], j, k, v, _ => by
    intro e he
    cases j <;> cases he
  | x :: es, 0, k, v, h => by
    intro e he
    rcases List.mem_cons.1 (show e ∈ { x with key := .string k, val := v } :: es from he) with rfl | h1
    · exact ⟨k, rfl⟩
    · exact h e (List.mem_cons_of_mem _ h1)
  | x :: es, j + 1, k, v, h => by
    intro e he
    rcases List.mem_cons.1 (show e ∈ x :: es.modify j _ from he) with rfl | h1
    · exact h _ (List.mem_cons_self ..)
    · exact SKeys.mod j k v (fun y hy => h y (List.mem_cons_of_mem _ hy)) e h1
/-- Entries' stamps: each once. -/
def St (es : Array MapEntry) (clock : Nat) : Prop := (∀ (i : Nat) (e : MapEntry), es[i]? = some e → e.born < clock) ∧ ∀ (i j : Nat) (e e' : MapEntry), es[i]? = some e → es[j]? = some e' → e.born = e'.born → i = j
theorem St.push {es : Array MapEntry} {clock : Nat} (h : St es clock) (k v : Value) : St (es.push { key := k, val := v, born := clock }) (clock + 1) := by
  have hp : ∀ (i : Nat) (e : MapEntry), (es.push { key := k, val := v, born := clock })[i]? = some e → es[i]? = some e ∨ (i = es.size ∧ e.born = clock) := by
    intro i e he
    rw [Array.getElem?_push] at he
    split at he
    · rename_i hi
      injection he with he
      exact .inr ⟨hi, by rw [← he]⟩
    · exact .inl he
  have hlt : ∀ (i : Nat) (e : MapEntry), es[i]? = some e → i < es.size := fun i e he => (Array.getElem?_eq_some_iff.1 he).1
  refine ⟨fun i e he => ?_, fun i j e e' he he' hb => ?_⟩
  · rcases hp i e he with h1 | ⟨_, h1⟩
    · exact Nat.lt_succ_of_lt (h.1 i e h1)
    · omega
  · rcases hp i e he with h1 | ⟨h0, h1⟩ <;> rcases hp j e' he' with h2 | ⟨h3, h2⟩
    · exact h.2 i j e e' h1 h2 hb
    · have := h.1 i e h1; omega
    · have := h.1 j e' h2; omega
    · omega
theorem St.mod {es : Array MapEntry} {clock : Nat} (h : St es clock) (j : Nat) (f : MapEntry → MapEntry) (hf : ∀ e, (f e).born = e.born) : St (es.modify j f) clock := by
  have hp : ∀ (i : Nat) (e : MapEntry), (es.modify j f)[i]? = some e → ∃ e0, es[i]? = some e0 ∧ e.born = e0.born := by
    intro i e he
    rw [Array.getElem?_modify] at he
    split at he
    · obtain ⟨e0, h0, rfl⟩ := Option.map_eq_some_iff.1 he
      exact ⟨e0, h0, hf e0⟩
    · exact ⟨e, he, rfl⟩
  refine ⟨fun i e he => ?_, fun i j2 e e' he he' hb => ?_⟩
  · obtain ⟨e0, h0, h1⟩ := hp i e he
    rw [h1]
    exact h.1 i e0 h0
  · obtain ⟨e0, h0, h1⟩ := hp i e he
    obtain ⟨e2, h2, h3⟩ := hp j2 e' he'
    exact h.2 i j2 e0 e2 h0 h2 (by rw [← h1, ← h3, hb])
/-- A map of strings, told by what stands for each. -/
def SMap (w : World) (r : Nat) (f : ByteArray → Option Value) : Prop := ∃ (es : Array MapEntry) (clock : Nat), w.heap[r]? = some (.map es clock) ∧ SKeys es.toList ∧ (∀ k, lookS es.toList k = f k) ∧ St es clock
theorem SMap.lt {w : World} {r : Nat} {f : ByteArray → Option Value} (h : SMap w r f) : r < w.heap.size := by
  obtain ⟨es, clock, hg, _⟩ := h
  exact (Array.getElem?_eq_some_iff.1 hg).1
theorem SMap.fr {S : Nat → Prop} {w w' : World} {r : Nat} {f : ByteArray → Option Value} (h : SMap w r f) (hf : Fr S w w') (hn : ¬ S r) : SMap w' r f := by
  have hl := h.lt
  obtain ⟨es, clock, hg, he⟩ := h
  exact ⟨es, clock, (hf.block r hl hn).trans hg, he⟩
theorem SMap.new (w : World) : SMap (w.alloc (.map #[] 0)) w.heap.size (fun _ => none) :=
  ⟨#[], 0, heap_alloc_new w _, (fun e he => by cases he), fun _ => rfl, fun i e he => by simp at he, fun i j e e' he => by simp at he⟩
theorem SMap.ne_blk {w : World} {r g : Nat} {t : TypeId} {cs : Array Value} {f : ByteArray → Option Value} (h : SMap w r f) (hb : Blk w g t cs) : r ≠ g := by
  rintro rfl
  obtain ⟨es, clock, hg, _⟩ := h
  have hb2 : w.heap[r]? = some (.cells cs t (0, 0)) := hb
  rw [hg] at hb2
  cases hb2
theorem SMap.ne_row {w : World} {r : Nat} {f : ByteArray → Option Value} (h : SMap w r f) {B e size n : Nat} {v : Value} {xs : List Value} (hr : w.ownsRow B e size v n xs) : v.ownBlock ≠ some r := by
  intro hv
  rcases hr.2 with ⟨rfl, _⟩ | ⟨g, cap, cur, rfl, _, hh, _⟩
  · cases hv
  · have : g = r := by simpa [Value.ownBlock] using hv
    subst this
    exact h.ne_blk (show Blk w g e cur from hh) rfl
theorem key_str (e : Bool) (k : ByteArray) (w : World) : (Instr.checkKey e 10000 9 (.string k)).run Tryz.prog w = .ok () w := by kernel_rfl
theorem findKey_s (k : ByteArray) (w : World) (es : List MapEntry) (h : SKeys es) : (Instr.findKey 9 (.string k) es).run Tryz.prog w = .ok (findS es k 0) w := by
  simp only [Instr.findKey, Sem.run_bind, run_underlying Tryz.underlying9, Result.andThen_ok, find_now k es 0 h]
  rfl
theorem run_lookup_s {w : World} {r : Nat} {f : ByteArray → Option Value} (h : SMap w r f) (T e : TypeId) (hu : Tryz.prog.underlying T = some (.map 9 e)) (z : Value) (hz : (zeroValue e).run Tryz.prog w = .ok z w) (k : ByteArray) :
    (Instr.lookup T (.map (some r)) (.string k) false).run Tryz.prog w = .ok ((f k).getD z) w := by
  obtain ⟨es, clock, hg, hk, hf, _⟩ := h
  have hget : (getObj r).run Tryz.prog w = .ok (.map es clock) w := by simp [getObj, Sem.run, hg]
  have h1 := hf k
  unfold lookS at h1
  simp only [Instr.lookup, Sem.run_bind, run_underlying hu, Result.andThen_ok, hget, Sem.run_pure, key_str, findKey_s k w es.toList hk]
  rw [← h1]
  cases findS es.toList k 0 with
  | none => simp [hz]
  | some p => simp
theorem findS_key2 (k : ByteArray) : ∀ (es : List MapEntry) (i j : Nat) (u : Value), SKeys es → findS es k i = some (j, u) → i ≤ j ∧ ∃ e0, es[j - i]? = some e0 ∧ e0.key = .string k
  | [], i, j, u, _, h => by cases h
  | e :: es, i, j, u, hs, h => by
    unfold findS at h
    cases he : e.key with
    | string s =>
      rw [he] at h
      simp only at h
      by_cases hk : k = s
      · rw [if_pos hk] at h
        have := congrArg Prod.fst (Option.some.inj h)
        simp only at this
        subst this hk
        exact ⟨Nat.le_refl _, e, by simp, he⟩
      · rw [if_neg hk] at h
        obtain ⟨h1, e0, h2, h3⟩ := findS_key2 k es (i + 1) j u (fun x hx => hs x (List.mem_cons_of_mem _ hx)) h
        refine ⟨by omega, e0, ?_, h3⟩
        rw [show j - i = (j - (i + 1)) + 1 by omega, List.getElem?_cons_succ]
        exact h2
    | _ => rw [he] at h; cases h
theorem findS_key (k : ByteArray) (l : List MapEntry) (j : Nat) (u : Value) (hs : SKeys l) (h : findS l k 0 = some (j, u)) (es : Array MapEntry) (hl : es.toList = l) : ∃ e0, es[j]? = some e0 ∧ e0.key = .string k := by
  obtain ⟨_, e0, h2, h3⟩ := findS_key2 k l 0 j u hs h
  refine ⟨e0, ?_, h3⟩
  rw [Nat.sub_zero, ← hl] at h2
  simpa using h2

theorem run_mapUpdate_s {w : World} {r : Nat} {f : ByteArray → Option Value} (h : SMap w r f) (T e : TypeId) (hu : Tryz.prog.underlying T = some (.map 9 e)) (k : ByteArray) (v : Value) :
    ∃ w', (Instr.mapUpdate T (.map (some r)) (.string k) v).run Tryz.prog w = .ok () w' ∧ SMap w' r (fun x => if x = k then some v else f x) ∧ Fr (fun j => j = r) w w' := by
  have hlt := h.lt
  obtain ⟨es, clock, hg, hk, hf, hst0⟩ := h
  have hget : (getObj r).run Tryz.prog w = .ok (.map es clock) w := by simp [getObj, Sem.run, hg]
  have hg2 : w.heap[r] = Obj.map es clock := by
    rw [Array.getElem?_eq_getElem hlt] at hg
    exact Option.some.inj hg
  have hfr : ∀ o, Fr (fun j => j = r) w (World.mapSet w r o) := fun o => ⟨rfl, rfl, rfl, by simp [World.mapSet], fun k hk hne => by
    show (w.heap.setIfInBounds r _)[k]? = _
    rw [Array.getElem?_setIfInBounds_ne (fun e => hne e.symm)]⟩
  cases h1 : findS es.toList k 0 with
  | none =>
    refine ⟨World.mapSet w r (.map (es.push { key := .string k, val := v, born := clock }) (clock + 1)), ?_, ⟨es.push { key := .string k, val := v, born := clock }, clock + 1, by simp [World.mapSet, hlt], ?_, fun x => ?_, hst0.push _ _⟩, hfr _⟩
    · simp only [Instr.mapUpdate, Sem.run_bind, run_underlying hu, Result.andThen_ok, hget, key_str, findKey_s k w es.toList hk, h1]
      simp [setObj, Sem.run, hlt, World.mapSet, hg2]
    · rw [Array.toList_push]; exact hk.push k v clock
    · unfold lookS
      rw [Array.toList_push, findS_push k x v clock es.toList 0 hk h1]
      have h2 := hf x
      unfold lookS at h2
      rw [h2]
  | some p =>
    obtain ⟨j, u⟩ := p
    have hj : ∃ e0, es[j]? = some e0 ∧ e0.key = .string k := findS_key k es.toList j u hk h1 es rfl
    obtain ⟨e0, he0, hek⟩ := hj
    have hst : (Instr.keyThatStays (.string k) (.string k)).run Tryz.prog w = .ok (.string k) w := by
      have : Instr.sameBits 10000 (.string k) (.string k) = true := by
        show (k == k) = true
        rw [beq_ba]
        simp
      simp [Instr.keyThatStays, this]
    refine ⟨World.mapSet w r (.map (es.modify j fun e => { e with key := .string k, val := v }) clock), ?_, ⟨es.modify j fun e => { e with key := .string k, val := v }, clock, by simp [World.mapSet, hlt], ?_, fun x => ?_, hst0.mod _ _ (fun _ => rfl)⟩, hfr _⟩
    · simp only [Instr.mapUpdate, Sem.run_bind, run_underlying hu, Result.andThen_ok, hget, key_str, findKey_s k w es.toList hk, h1, he0, Option.map_some, Option.getD_some, hek, hst]
      simp [setObj, Sem.run, hlt, World.mapSet, hg2]
    · rw [Array.toList_modify]; exact SKeys.mod j k v hk
    · unfold lookS
      rw [Array.toList_modify, findS_mod k x v es.toList 0 j u hk (by rw [h1, Nat.zero_add])]
      have h2 := hf x
      unfold lookS at h2
      rw [h2]

theorem findS_val (k : ByteArray) (l : List MapEntry) (j : Nat) (u : Value) (hs : SKeys l) (h : findS l k 0 = some (j, u)) (es : Array MapEntry) (hl : es.toList = l) : ∃ e0, es[j]? = some e0 ∧ e0.key = .string k ∧ e0.val = u := by
  obtain ⟨e0, h1, h2⟩ := findS_key k l j u hs h es hl
  refine ⟨e0, h1, h2, ?_⟩
  have key : ∀ (m : List MapEntry) (i : Nat), findS m k i = some (i + (j - i), u) → True := fun _ _ _ => trivial
  exact findS_val2 k l 0 j u h e0 (by rw [Nat.sub_zero, ← hl]; simpa using h1)
where
  findS_val2 (k : ByteArray) : ∀ (es : List MapEntry) (i j : Nat) (u : Value), findS es k i = some (j, u) → ∀ e0, es[j - i]? = some e0 → e0.val = u
    | [], i, j, u, h, _, _ => by cases h
    | e :: es, i, j, u, h, e0, he => by
      unfold findS at h
      cases hk : e.key with
      | string s =>
        rw [hk] at h
        simp only at h
        by_cases hks : k = s
        · rw [if_pos hks] at h
          have h1 := congrArg Prod.fst (Option.some.inj h)
          have h2 := congrArg Prod.snd (Option.some.inj h)
          simp only at h1 h2
          subst h1
          rw [Nat.sub_self, List.getElem?_cons_zero] at he
          injection he with he
          rw [← he, h2]
        · rw [if_neg hks] at h
          have hge := findS_mod.findS_ge k es (i + 1) (j, u) h
          simp only at hge
          rw [show j - i = (j - (i + 1)) + 1 by omega, List.getElem?_cons_succ] at he
          exact findS_val2 k es (i + 1) j u h e0 he
      | _ => rw [hk] at h; cases h
/-- The entry of a key bears a stamp. -/
def StampAt (w : World) (r : Nat) (k : ByteArray) (b : Nat) : Prop := ∃ (es : Array MapEntry) (clock j : Nat) (u : Value) (e0 : MapEntry), w.heap[r]? = some (.map es clock) ∧ findS es.toList k 0 = some (j, u) ∧ es[j]? = some e0 ∧ e0.born = b
theorem StampAt.fr {S : Nat → Prop} {w w' : World} {r b : Nat} {k : ByteArray} (h : StampAt w r k b) (hf : Fr S w w') (hn : ¬ S r) : StampAt w' r k b := by
  obtain ⟨es, clock, j, u, e0, hg, h1⟩ := h
  exact ⟨es, clock, j, u, e0, (hf.block r (Array.getElem?_eq_some_iff.1 hg).1 hn).trans hg, h1⟩
theorem mod_key (k : ByteArray) (v : Value) (es : List MapEntry) (j : Nat) (e0 : MapEntry) (h : es[j]? = some e0) (hk : e0.key = .string k) : (es.modify j fun e => { e with val := v }) = es.modify j fun e => { e with key := .string k, val := v } := by
  apply List.ext_getElem?
  intro i
  rw [List.getElem?_modify, List.getElem?_modify]
  by_cases hi : j = i
  · subst hi
    rw [h]
    cases e0
    simp only at hk
    simp [hk]
  · simp [hi]
theorem mod_only (k : ByteArray) (es : List MapEntry) (j : Nat) (e0 : MapEntry) (h : es[j]? = some e0) (hk : e0.key = .string k) : (es.modify j fun e => { e with key := .string k }) = es := by
  apply List.ext_getElem?
  intro i
  rw [List.getElem?_modify]
  by_cases hi : j = i
  · subst hi
    rw [h]
    cases e0
    simp only at hk
    simp [hk]
  · simp [hi]
theorem findS_self (k : ByteArray) (v : Value) (c : Nat) : ∀ (es : List MapEntry) (i : Nat), SKeys es → findS es k i = none → findS (es ++ [{ key := .string k, val := v, born := c }]) k i = some (i + es.length, v)
  | [], i, _, _ => by
    show findS [{ key := .string k, val := v, born := c }] k i = _
    unfold findS
    simp
  | e :: es, i, h, hn => by
    obtain ⟨s, hs⟩ := h e (List.mem_cons_self ..)
    have hsk : SKeys es := fun x hx => h x (List.mem_cons_of_mem _ hx)
    unfold findS at hn
    rw [hs] at hn
    simp only at hn
    by_cases hk : k = s
    · rw [if_pos hk] at hn; cases hn
    · rw [if_neg hk] at hn
      have ih := findS_self k v c es (i + 1) hsk hn
      show findS (e :: (es ++ [_])) k i = _
      unfold findS
      rw [hs]
      simp only
      rw [if_neg hk, ih]
      simp
      omega
theorem map_fr (w : World) (r : Nat) (o : Obj) : Fr (fun j => j = r) w (World.mapSet w r o) := ⟨rfl, rfl, rfl, by simp [World.mapSet], fun k hk hne => by
    show (w.heap.setIfInBounds r _)[k]? = _
    rw [Array.getElem?_setIfInBounds_ne (fun e => hne e.symm)]⟩
theorem stays_str (k : ByteArray) (w : World) : (Instr.keyThatStays (.string k) (.string k)).run Tryz.prog w = .ok (.string k) w := by
  have : Instr.sameBits 10000 (.string k) (.string k) = true := by
    show (k == k) = true
    rw [beq_ba]
    simp
  simp [Instr.keyThatStays, this]
theorem run_mapEntry_s {w : World} {r : Nat} {f : ByteArray → Option Value} (h : SMap w r f) (T e : TypeId) (hu : Tryz.prog.underlying T = some (.map 9 e)) (z : Value) (hz : (zeroValue e).run Tryz.prog w = .ok z w) (k : ByteArray) :
    ∃ w' b, (Instr.mapEntry T (.map (some r)) (.string k)).run Tryz.prog w = .ok (.tuple #[(f k).getD z, .int .i64 (b : Nat)]) w' ∧ SMap w' r (fun x => if x = k then some ((f k).getD z) else f x) ∧ StampAt w' r k b ∧ Fr (fun j => j = r) w w' := by
  have hlt := h.lt
  obtain ⟨es, clock, hg, hk, hf, hst0⟩ := h
  have hget : (getObj r).run Tryz.prog w = .ok (.map es clock) w := by simp [getObj, Sem.run, hg]
  have hg2 : w.heap[r] = Obj.map es clock := by
    rw [Array.getElem?_eq_getElem hlt] at hg
    exact Option.some.inj hg
  have hfk := hf k
  unfold lookS at hfk
  cases h1 : findS es.toList k 0 with
  | none =>
    rw [h1] at hfk
    rw [← hfk]
    refine ⟨World.mapSet w r (.map (es.push { key := .string k, val := z, born := clock }) (clock + 1)), clock, ?_, ⟨es.push { key := .string k, val := z, born := clock }, clock + 1, by simp [World.mapSet, hlt], ?_, fun x => ?_, hst0.push _ _⟩, ⟨es.push { key := .string k, val := z, born := clock }, clock + 1, es.size, z, { key := .string k, val := z, born := clock }, by simp [World.mapSet, hlt], ?_, by simp, rfl⟩, map_fr w r _⟩
    · simp only [Instr.mapEntry, Sem.run_bind, run_underlying hu, Result.andThen_ok, hget, key_str, findKey_s k w es.toList hk, h1, hz]
      simp [setObj, Sem.run, hlt, World.mapSet, hg2, goInt]
    · rw [Array.toList_push]; exact hk.push k z clock
    · unfold lookS
      rw [Array.toList_push, findS_push k x z clock es.toList 0 hk h1]
      have h2 := hf x
      unfold lookS at h2
      rw [h2]
      rfl
    · rw [Array.toList_push, findS_self k z clock es.toList 0 hk h1]
      simp
  | some p =>
    obtain ⟨j, u⟩ := p
    rw [h1] at hfk
    rw [← hfk]
    obtain ⟨e0, he0, hek, hev⟩ := findS_val k es.toList j u hk h1 es rfl
    have hmod : es.modify j (fun e => { e with key := .string k }) = es := by
      apply Array.toList_inj.1
      rw [Array.toList_modify]
      exact mod_only k es.toList j e0 (by simpa using he0) hek
    refine ⟨World.mapSet w r (.map es clock), e0.born, ?_, ⟨es, clock, by simp [World.mapSet, hlt], hk, fun x => ?_, hst0⟩, ⟨es, clock, j, u, e0, by simp [World.mapSet, hlt], h1, he0, rfl⟩, map_fr w r _⟩
    · simp only [Instr.mapEntry, Sem.run_bind, run_underlying hu, Result.andThen_ok, hget, key_str, findKey_s k w es.toList hk, h1, he0, Option.map_some, Option.getD_some, hek, stays_str, hmod]
      simp [setObj, Sem.run, hlt, World.mapSet, hg2, goInt]
    · show lookS es.toList x = if x = k then _ else f x
      by_cases hx : x = k
      · rw [if_pos hx, hx]
        unfold lookS
        rw [h1]
        rfl
      · rw [if_neg hx]
        exact hf x
theorem run_entryStore_s {w : World} {r b : Nat} {k : ByteArray} {f : ByteArray → Option Value} (h : SMap w r f) (hs : StampAt w r k b) (T : TypeId) (v : Value) :
    ∃ w', (Instr.entryStore T (.map (some r)) (.int .i64 (b : Nat)) v).run Tryz.prog w = .ok () w' ∧ SMap w' r (fun x => if x = k then some v else f x) ∧ Fr (fun j => j = r) w w' := by
  have hlt := h.lt
  obtain ⟨es, clock, hg, hk, hf, hst0⟩ := h
  obtain ⟨es2, clock2, j, u, e0, hg3, h1, h2, h3⟩ := hs
  rw [hg] at hg3
  injection hg3 with hg3
  injection hg3 with hg3 hg4
  subst hg3 hg4
  have hget : (getObj r).run Tryz.prog w = .ok (.map es clock) w := by simp [getObj, Sem.run, hg]
  have hg2 : w.heap[r] = Obj.map es clock := by
    rw [Array.getElem?_eq_getElem hlt] at hg
    exact Option.some.inj hg
  obtain ⟨e1, he1, hek, hev⟩ := findS_val k es.toList j u hk h1 es rfl
  rw [h2] at he1
  injection he1 with he1
  subst he1
  have hjl : j < es.size := (Array.getElem?_eq_some_iff.1 h2).1
  have hidx : es.findIdx? (fun e => (e.born : Int) == (b : Int)) = some j := by
    rw [Array.findIdx?_eq_some_iff_getElem]
    refine ⟨hjl, ?_, fun i hi => ?_⟩
    · have : es[j] = e0 := by rw [Array.getElem?_eq_getElem hjl] at h2; exact Option.some.inj h2
      rw [this, h3]
      simp
    · intro hc
      have h4 := hst0.2 i j es[i] e0 (Array.getElem?_eq_getElem _) h2 (by rw [h3]; have := eq_of_beq hc; omega)
      omega
  have hmod : (es.modify j fun e => { e with val := v }).toList = es.toList.modify j fun e => { e with key := .string k, val := v } := by
    rw [Array.toList_modify]
    exact mod_key k v es.toList j e0 (by simpa using h2) hek
  refine ⟨World.mapSet w r (.map (es.modify j fun e => { e with val := v }) clock), ?_, ⟨es.modify j fun e => { e with val := v }, clock, by simp [World.mapSet, hlt], ?_, fun x => ?_, hst0.mod _ _ (fun _ => rfl)⟩, map_fr w r _⟩
  · have hai : (asInt (.int .i64 (b : Nat))).run Tryz.prog w = .ok (b : Int) w := rfl
    simp only [Instr.entryStore, Sem.run_bind, Result.andThen_ok, hget, hai, hidx]
    simp [setObj, Sem.run, hlt, World.mapSet, hg2]
  · rw [hmod]; exact SKeys.mod j k v hk
  · unfold lookS
    rw [hmod, findS_mod k x v es.toList 0 j u hk (by rw [h1, Nat.zero_add])]
    have h4 := hf x
    unfold lookS at h4
    rw [h4]

end Go.Proofs.YtebddgdkndmpjaaGreatDoor
