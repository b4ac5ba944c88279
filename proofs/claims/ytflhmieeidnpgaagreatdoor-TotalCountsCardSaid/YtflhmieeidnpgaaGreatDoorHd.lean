/- Groups: what becomes of them, plain and in memory. -/
import Derived.Test.YtflhmieeidnpgaaGreatDoorHc
import Derived.Deep.CutBlock
import Derived.Deep.RegionLawGrows
import Derived.Deep.Cut
import Derived.Deep.CutRange
import Derived.WalkKit
import Derived.WalkLawsBesides
import Derived.WalkSpells
import Derived.Deep.QuietTactic
import Derived.BigRegion
import Derived.BigQuiet
import Derived.Lib.Hide
import Derived.Outline
import Derived.Deep.AppendLies
import Derived.Deep.RegionLaw
import Derived.Deep.RegionWith
import Derived.Deep.RegionHeld3
import Derived.Deep.LoopGhost
import Derived.Deep.DeepFit
import Derived.Laws.ResultCell
import Derived.Laws.RangeAny
import Derived.Deep.MidRow
import Derived.StillTailTactics
import Derived.OpenShut
namespace Go.Proofs.YtflhmieeidnpgaaGreatDoor
set_option linter.unusedVariables false
open Go.RowKit Go

/-- A row comes to the groups. -/
def grow (ks : List Key) (gs : List (List (List Int))) (xs : List Int) : List (List (List Int)) :=
  match gs.findIdx? (fun g => alikeB ks xs (g.headD [])) with
  | some k => gs.set k (gs.getD k [] ++ [xs])
  | none => gs ++ [[xs]]
def groupsTo (ks : List Key) (rows : List (List Int)) : Nat → List (List (List Int))
  | 0 => []
  | i + 1 => grow ks (groupsTo ks rows i) (rows.getD i [])
theorem grow_some {ks : List Key} {gs : List (List (List Int))} {xs : List Int} {k : Nat} (hk : k < gs.length) (h : alikeB ks xs ((gs.getD k []).headD []) = true) (hno : ∀ j, j < k → alikeB ks xs ((gs.getD j []).headD []) = false) :
    grow ks gs xs = gs.set k (gs.getD k [] ++ [xs]) := by
  have e : gs.findIdx? (fun g => alikeB ks xs (g.headD [])) = some k := by
    rw [List.findIdx?_eq_some_iff_getElem]
    refine ⟨hk, ?_, fun j hj => ?_⟩
    · rw [List.getD_eq_getElem?_getD, List.getElem?_eq_getElem hk] at h
      exact h
    · have := hno j hj
      rw [List.getD_eq_getElem?_getD, List.getElem?_eq_getElem (by omega)] at this
      simpa using this
  unfold grow
  rw [e]
theorem grow_none {ks : List Key} {gs : List (List (List Int))} {xs : List Int} (hno : ∀ j, j < gs.length → alikeB ks xs ((gs.getD j []).headD []) = false) :
    grow ks gs xs = gs ++ [[xs]] := by
  have e : gs.findIdx? (fun g => alikeB ks xs (g.headD [])) = none := by
    rw [List.findIdx?_eq_none_iff]
    intro g hg
    obtain ⟨j, hj, rfl⟩ := List.getElem_of_mem hg
    have := hno j hj
    rw [List.getD_eq_getElem?_getD, List.getElem?_eq_getElem hj] at this
    simpa using this
  unfold grow
  rw [e]
theorem grow_cases (ks : List Key) (gs : List (List (List Int))) (xs : List Int) : (∃ k, k < gs.length ∧ grow ks gs xs = gs.set k (gs.getD k [] ++ [xs])) ∨ grow ks gs xs = gs ++ [[xs]] := by
  cases h : gs.findIdx? (fun g => alikeB ks xs (g.headD [])) with
  | none =>
    right
    unfold grow
    rw [h]
  | some k =>
    left
    rw [List.findIdx?_eq_some_iff_getElem] at h
    refine ⟨k, h.1, ?_⟩
    unfold grow
    rw [List.findIdx?_eq_some_iff_getElem.2 h]
theorem getD_mem {α : Type} {l : List α} {i : Nat} {d : α} (h : i < l.length) : l.getD i d ∈ l := by
  rw [List.getD_eq_getElem?_getD, List.getElem?_eq_getElem h]
  exact List.getElem_mem h
/-- Groups have rows, of three cells each, not too many. -/
theorem groupsTo_ok (ks : List Key) (rows : List (List Int)) (h3 : ∀ r, r ∈ rows → r.length = 3) : ∀ i, i ≤ rows.length → (groupsTo ks rows i).length ≤ i ∧ ∀ g, g ∈ groupsTo ks rows i → 0 < g.length ∧ g.length ≤ i ∧ ∀ r, r ∈ g → r.length = 3
  | 0, _ => ⟨Nat.le_refl _, fun g hg => by cases hg⟩
  | i + 1, hi => by
    obtain ⟨h1, h2⟩ := groupsTo_ok ks rows h3 i (by omega)
    have hr : (rows.getD i []).length = 3 := h3 _ (getD_mem (by omega))
    unfold groupsTo
    rcases grow_cases ks (groupsTo ks rows i) (rows.getD i []) with ⟨k, hk, e⟩ | e
    · rw [e]
      refine ⟨by rw [List.length_set]; omega, fun g hg => ?_⟩
      rcases List.mem_or_eq_of_mem_set hg with hg | rfl
      · obtain ⟨a, b, c⟩ := h2 g hg
        exact ⟨a, by omega, c⟩
      · obtain ⟨a, b, c⟩ := h2 _ (getD_mem (d := []) hk)
        refine ⟨by rw [List.length_append, List.length_singleton]; omega, by rw [List.length_append, List.length_singleton]; omega, fun r hr2 => ?_⟩
        simp only [List.mem_append, List.mem_singleton] at hr2
        rcases hr2 with hr2 | rfl
        · exact c r hr2
        · exact hr
    · rw [e]
      refine ⟨by simp; omega, fun g hg => ?_⟩
      simp only [List.mem_append, List.mem_singleton] at hg
      rcases hg with hg | rfl
      · obtain ⟨a, b, c⟩ := h2 g hg
        exact ⟨a, by omega, c⟩
      · refine ⟨by simp, by simp, fun r hr2 => ?_⟩
        simp only [List.mem_singleton] at hr2
        rw [hr2]
        exact hr
theorem getD_app {α : Type} {l : List α} {x d : α} : (∀ i, i < l.length → (l ++ [x]).getD i d = l.getD i d) ∧ (l ++ [x]).getD l.length d = x :=
  ⟨fun i hi => by rw [List.getD_eq_getElem?_getD, List.getElem?_append_left hi, ← List.getD_eq_getElem?_getD], by rw [List.getD_eq_getElem?_getD, List.getElem?_append_right (Nat.le_refl _)]; simp⟩
theorem getD_set {α : Type} {l : List α} {x d : α} {k : Nat} (hk : k < l.length) : (∀ i, i ≠ k → (l.set k x).getD i d = l.getD i d) ∧ (l.set k x).getD k d = x :=
  ⟨fun i hi => by rw [List.getD_eq_getElem?_getD, List.getElem?_set_ne (Ne.symm hi), ← List.getD_eq_getElem?_getD], by rw [List.getD_eq_getElem?_getD, List.getElem?_set_self hk]; rfl⟩

theorem fr_row {S : Nat → Prop} {w w' : World} {B : Nat} {p : Value × Value} {g : List (List Int)} (h : GrpAt w B p g) (hf : Fr S w w')
    (h9 : ∀ k, p.1.ownBlock = some k → ¬ S k) (h48 : ∀ k, p.2.ownBlock = some k → ¬ S k) (h3 : ∀ (k n : Nat) (v : Value) (xs : List Int), IntRow w B v xs → v.ownBlock = some k → ¬ S k) : GrpAt w' B p g := by
  obtain ⟨vals, hr⟩ := h.rows
  exact ⟨h.vars, ownsRow_fr h.strs hf h9, vals, hr.fr hf h48 (fun i hi k hk => h3 k 0 _ _ (hr.each i hi) hk)⟩
/-- A new group, without rows yet. -/
theorem GroupsAt.new {w w6 : World} {C B : Nat} {v v6 nv : Value} {ps : List (Value × Value)} {gs : List (List (List Int))} (h : GroupsAt w C B v ps gs) (hv : ∃ vg vc, nv = .slice (some ⟨vg, 0, none⟩) 3 vc) (hs : w.ownsRow B 9 1 nv 3 (abc.map .string)) (o : Obj)
    (hown : w6.ownsRow C 29 2 v6 (gs.length + 1) (pairs ps ++ [nv, .slice none 0 0])) (hg : (w.alloc o).grownBy w6 v.ownBlock) : GroupsAt w6 C B v6 (ps ++ [(nv, .slice none 0 0)]) (gs ++ [[]]) := by
  have hf : Fr (fun j => v.ownBlock = some j) w w6 := ((Fr.refl _ w).alloc o).trans (Fr.of_grown hg) (fun _ _ h => h)
  have hl := h.len
  have hp := @getD_app _ ps (nv, Value.slice none 0 0) (undef, undef)
  have hq := @getD_app _ gs [] []
  have hn : GrpAt w B (nv, .slice none 0 0) [] := ⟨hv, hs, [], World.ownsRow_nil _ _ _ _, fun i hi => absurd hi (Nat.not_lt_zero _)⟩
  have keep : ∀ p g, GrpAt w B p g → GrpAt w6 B p g := fun p g hgr => fr_row hgr hf (fun k hk hn => row_row_ne h.own hgr.strs (by decide) hn hk) (fun k hk hn => by
    obtain ⟨vals, hr⟩ := hgr.rows
    exact row_row_ne h.own hr.own (by decide) hn hk) (fun k n v xs hr hk hn => row_row_ne h.own hr (by decide) hn hk)
  refine ⟨by simp [hl], ?_, fun i hi => ?_, fun i j hi hj hij k hk => ?_⟩
  · rw [pairs_append, List.length_append]
    exact hown
  · rw [List.length_append, List.length_singleton] at hi
    by_cases e : i < gs.length
    · rw [hp.1 i (by omega), hq.1 i e]
      exact keep _ _ (h.each i e)
    · have e2 : i = gs.length := by omega
      subst e2
      rw [hq.2, ← hl, hp.2]
      exact keep _ _ hn
  · rw [List.length_append, List.length_singleton] at hi hj
    by_cases e : i < gs.length
    · by_cases e2 : j < gs.length
      · rw [hp.1 j (by omega)]
        rw [hp.1 i (by omega)] at hk
        exact h.apart i j e e2 hij k hk
      · have e3 : j = ps.length := by omega
        subst e3
        rw [hp.2]
        intro hk2
        cases hk2
    · have e3 : i = ps.length := by omega
      subst e3
      rw [hp.2] at hk
      cases hk
/-- A row is put to a group. -/
theorem GroupsAt.put {w w6 : World} {C B H og n cap : Nat} {v6 nv : Value} {vals : List Value} {ps : List (Value × Value)} {gs : List (List (List Int))} {xs : List Int} {k : Nat} (h : GroupsAt w C B (.slice (some ⟨og, 0, none⟩) n cap) ps gs) (hk : k < gs.length)
    (hvals : RowsAt w B (ps.getD k (undef, undef)).2 vals (gs.getD k [])) (hn : IntRow w H nv xs) (hBH : B ≤ H) (o : Obj)
    (hown : w6.ownsRow B 48 1 v6 ((gs.getD k []).length + 1) (vals ++ [nv])) (hg : (w.alloc o).grownBy w6 (ps.getD k (undef, undef)).2.ownBlock)
    (hat : v6.ownBlock = (ps.getD k (undef, undef)).2.ownBlock ∨ v6.ownBlock = some (w.alloc o).heap.size) :
    GroupsAt (w6.setCell ⟨og, k * 2 + 1, none⟩ v6) C B (.slice (some ⟨og, 0, none⟩) n cap) (ps.set k ((ps.getD k (undef, undef)).1, v6)) (gs.set k (gs.getD k [] ++ [xs])) := by
  have hl := h.len
  have hf : Fr (fun j => (ps.getD k (undef, undef)).2.ownBlock = some j) w w6 := ((Fr.refl _ w).alloc o).trans (Fr.of_grown hg) (fun _ _ h => h)
  have hf2 : Fr (fun j => j = og) w6 (w6.setCell ⟨og, k * 2 + 1, none⟩ v6) := (Fr.refl (fun j => j = og) w6).setCell ⟨og, k * 2 + 1, none⟩ (fun _ => rfl) v6
  have hp := @getD_set _ ps ((ps.getD k (undef, undef)).1, v6) (undef, undef) k (by omega)
  have hq := @getD_set _ gs (gs.getD k [] ++ [xs]) [] k hk
  have hnl : n = gs.length := by
    obtain ⟨A, c', e⟩ := row_shape h.own
    injection e
  have hob : ∀ j, (Value.slice (some ⟨og, 0, none⟩) n cap).ownBlock = some j ↔ og = j := fun j => by
    constructor
    · intro e
      exact Option.some.inj e
    · intro e
      rw [← e]
      rfl
  have hown6 := ownsRow_fr h.own hf (fun j hj hn => row_row_ne hvals.own h.own (by decide) hn hj)
  rw [← hnl] at hown6
  have hst := (hown6.stored (k * 2 + 1) v6).1
  have keep2 : ∀ p g, GrpAt w6 B p g → GrpAt (w6.setCell ⟨og, k * 2 + 1, none⟩ v6) B p g := fun p g hgr => fr_row hgr hf2 (fun j hj hn => row_row_ne hown6 hgr.strs (by decide) ((hob j).2 hn.symm) hj) (fun j hj hn => by
    obtain ⟨vals, hr⟩ := hgr.rows
    exact row_row_ne hown6 hr.own (by decide) ((hob j).2 hn.symm) hj) (fun j n v xs hr hj hn => row_row_ne hown6 hr (by decide) ((hob j).2 hn.symm) hj)
  refine ⟨by rw [List.length_set, List.length_set]; exact hl, ?_, fun i hi => ?_, fun i j hi hj hij b hb => ?_⟩
  · rw [List.length_set, ← pairs_set ps k (by omega) v6, ← hnl]
    exact hst
  · rw [List.length_set] at hi
    refine keep2 _ _ ?_
    by_cases e : i = k
    · subst e
      rw [hp.2, hq.2]
      have hgr := h.each i hk
      refine ⟨hgr.vars, ownsRow_fr hgr.strs hf (fun j hj hn => row_row_ne hvals.own hgr.strs (by decide) hn hj), vals ++ [nv], hvals.push hn hBH o hown hg⟩
    · rw [hp.1 i e, hq.1 i e]
      have hgr := h.each i hi
      exact fr_row hgr hf (fun j hj hn => row_row_ne hvals.own hgr.strs (by decide) hn hj) (fun j hj hn => h.apart i k hi hk e j hj hn) (fun j n v xs hr hj hn => row_row_ne hvals.own hr (by decide) hn hj)
  · rw [List.length_set] at hi hj
    have fresh : ∀ i, i < gs.length → ∀ b, (ps.getD i (undef, undef)).2.ownBlock = some b → b < w.heap.size := fun i hi b hb => by
      obtain ⟨vals, hr⟩ := (h.each i hi).rows
      exact (hr.own.lt b hb).2
    have hz : w.heap.size ≤ (w.alloc o).heap.size := by simp
    by_cases e : i = k
    · subst e
      rw [hp.2] at hb
      rw [hp.1 j (Ne.symm hij)]
      intro hb2
      rcases hat with e1 | e1
      · exact h.apart i j hi hj hij b (by rw [← e1]; exact hb) hb2
      · have h1 := fresh j hj b hb2
        rw [e1] at hb
        injection hb with hb
        omega
    · rw [hp.1 i e] at hb
      by_cases e2 : j = k
      · subst e2
        rw [hp.2]
        intro hb2
        rcases hat with e1 | e1
        · exact h.apart i j hi hj hij b hb (by rw [← e1]; exact hb2)
        · have h1 := fresh i hi b hb
          rw [e1] at hb2
          injection hb2 with hb2
          omega
      · rw [hp.1 j e2]
        exact h.apart i j hi hj hij b hb

end Go.Proofs.YtflhmieeidnpgaaGreatDoor
