/- The groups of the law, plain and in memory. -/
import Derived.Test.YtflhmieeidnpgaaGreatDoorHd
import Derived.Deep.CutBlock
import Derived.Deep.RegionLawGrows
import Derived.Deep.Cut
import Derived.Deep.CutRange
import Derived.WalkKit
import Derived.WalkLawsBesides
import Derived.WalkSpells
import Derived.Deep.QuietTactic
import Derived.BigRegion
import Derived.BigQuiet
import Derived.Lib.Hide
import Derived.Outline
import Derived.Deep.AppendLies
import Derived.Deep.RegionLaw
import Derived.Deep.RegionWith
import Derived.Deep.RegionHeld3
import Derived.Deep.LoopGhost
import Derived.Deep.DeepFit
import Derived.Laws.ResultCell
import Derived.Laws.RangeAny
import Derived.Deep.MidRow
import Derived.StillTailTactics
import Derived.OpenShut
namespace Go.Proofs.YtflhmieeidnpgaaGreatDoor
set_option linter.unusedVariables false
open Go.RowKit Go

theorem alike_eq {ks : List Key} {xs ys : List Int} : alikeB ks xs ys = true ↔ ∀ k, k ∈ ks → k.val xs = k.val ys := by
  unfold alikeB
  rw [List.all_eq_true]
  constructor
  · intro h k hk
    simpa using h k hk
  · intro h k hk
    simpa using h k hk
theorem alike_trans {ks : List Key} {xs ys zs : List Int} (h1 : alikeB ks xs ys = true) (h2 : alikeB ks xs zs = true) : alikeB ks ys zs = true := by
  rw [alike_eq] at *
  intro k hk
  rw [← h1 k hk, h2 k hk]
theorem alike_symm {ks : List Key} {xs ys : List Int} (h1 : alikeB ks xs ys = true) : alikeB ks ys xs = true := by
  rw [alike_eq] at *
  intro k hk
  rw [h1 k hk]
/-- The heads of two groups aren't alike. -/
def Apart (ks : List Key) (gs : List (List (List Int))) : Prop := (∀ g, g ∈ gs → g ≠ []) ∧ ∀ i j, i < gs.length → j < gs.length → i ≠ j → alikeB ks ((gs.getD i []).headD []) ((gs.getD j []).headD []) = false
theorem headD_app {g : List (List Int)} {x : List Int} (h : g ≠ []) : (g ++ [x]).headD [] = g.headD [] := by
  cases g with
  | nil => exact absurd rfl h
  | cons a t => rfl
theorem Apart.grow {ks : List Key} {gs : List (List (List Int))} {xs : List Int} (h : Apart ks gs) : Apart ks (grow ks gs xs) := by
  cases hf : gs.findIdx? (fun g => alikeB ks xs (g.headD [])) with
  | some k =>
    have e : YtflhmieeidnpgaaGreatDoor.grow ks gs xs = gs.set k (gs.getD k [] ++ [xs]) := by
      unfold YtflhmieeidnpgaaGreatDoor.grow
      rw [hf]
    rw [e]
    rw [List.findIdx?_eq_some_iff_getElem] at hf
    obtain ⟨hk, _, _⟩ := hf
    have hs := @getD_set _ gs (gs.getD k [] ++ [xs]) [] k hk
    have hh : ∀ i, i < gs.length → ((gs.set k (gs.getD k [] ++ [xs])).getD i []).headD [] = (gs.getD i []).headD [] := fun i hi => by
      by_cases e : i = k
      · subst e
        rw [hs.2, headD_app (h.1 _ (getD_mem hi))]
      · rw [hs.1 i e]
    refine ⟨fun g hg => ?_, fun i j hi hj hij => ?_⟩
    · rcases List.mem_or_eq_of_mem_set hg with hg | rfl
      · exact h.1 g hg
      · simp
    · rw [List.length_set] at hi hj
      rw [hh i hi, hh j hj]
      exact h.2 i j hi hj hij
  | none =>
    have e : YtflhmieeidnpgaaGreatDoor.grow ks gs xs = gs ++ [[xs]] := by
      unfold YtflhmieeidnpgaaGreatDoor.grow
      rw [hf]
    rw [e]
    rw [List.findIdx?_eq_none_iff] at hf
    have hno : ∀ j, j < gs.length → alikeB ks xs ((gs.getD j []).headD []) = false := fun j hj => hf _ (getD_mem hj)
    have hq := @getD_app _ gs [xs] []
    refine ⟨fun g hg => ?_, fun i j hi hj hij => ?_⟩
    · simp only [List.mem_append, List.mem_singleton] at hg
      rcases hg with hg | rfl
      · exact h.1 g hg
      · simp
    · rw [List.length_append, List.length_singleton] at hi hj
      by_cases e1 : i < gs.length
      · by_cases e2 : j < gs.length
        · rw [hq.1 i e1, hq.1 j e2]
          exact h.2 i j e1 e2 hij
        · have e3 : j = gs.length := by omega
          rw [hq.1 i e1, e3, hq.2]
          have h2 := hno i e1
          cases h3 : alikeB ks ((gs.getD i []).headD []) (([xs] : List (List Int)).headD []) with
          | false => rfl
          | true =>
            have h4 := alike_symm h3
            rw [show ([xs] : List (List Int)).headD [] = xs from rfl] at h4
            rw [h4] at h2
            cases h2
      · have e3 : i = gs.length := by omega
        have e2 : j < gs.length := by omega
        rw [e3, hq.2, hq.1 j e2]
        exact hno j e2
theorem groupsTo_apart (ks : List Key) (rows : List (List Int)) : ∀ i, Apart ks (groupsTo ks rows i)
  | 0 => ⟨(fun g hg => by cases hg), fun i j hi => absurd hi (Nat.not_lt_zero _)⟩
  | i + 1 => (groupsTo_apart ks rows i).grow

/-- Which group a row belongs to, as far as it was looked for. -/
def LastAt (f : Nat → Bool) (i : Nat) (at_ : Int) : Prop := (at_ = -1 ∧ ∀ j, j < i → f j = false) ∨ ∃ k : Nat, at_ = (k : Int) ∧ k < i ∧ f k = true ∧ ∀ j, j < i → j ≠ k → f j = false
theorem LastAt.no {f : Nat → Bool} {i : Nat} {a : Int} (h : LastAt f i a) (hf : f i = false) : LastAt f (i + 1) a := by
  rcases h with ⟨h1, h2⟩ | ⟨k, h1, h2, h3, h4⟩
  · exact .inl ⟨h1, fun j hj => by
      by_cases e : j = i
      · rw [e]; exact hf
      · exact h2 j (by omega)⟩
  · exact .inr ⟨k, h1, by omega, h3, fun j hj hk => by
      by_cases e : j = i
      · rw [e]; exact hf
      · exact h4 j (by omega) hk⟩
theorem LastAt.yes {f : Nat → Bool} {i : Nat} {a : Int} (h : LastAt f i a) (hf : f i = true) (hu : ∀ j, j < i → f j = false) : LastAt f (i + 1) i :=
  .inr ⟨i, rfl, by omega, hf, fun j hj hk => hu j (by omega)⟩
theorem others_false {ks : List Key} {gs : List (List (List Int))} {xs : List Int} (h : Apart ks gs) {i j : Nat} (hi : i < gs.length) (hj : j < gs.length) (hij : j ≠ i) (hf : alikeB ks xs ((gs.getD i []).headD []) = true) : alikeB ks xs ((gs.getD j []).headD []) = false := by
  cases h2 : alikeB ks xs ((gs.getD j []).headD []) with
  | false => rfl
  | true =>
    have h3 := alike_trans h2 hf
    rw [h.2 j i hj hi hij] at h3
    cases h3

/-- The law's groups in memory. -/
structure WantAt (w : World) (C : Nat) (v : Value) (ws : List Value) (gs : List (List (List Int))) : Prop where
  len : ws.length = gs.length
  own : w.ownsRow C 27 1 v gs.length ws
  each : ∀ i, i < gs.length → ∃ vals, w.ownsRow C 48 1 (ws.getD i undef) (gs.getD i []).length vals ∧ ∀ j, j < (gs.getD i []).length → IntRow w 0 (vals.getD j undef) ((gs.getD i []).getD j [])
  apart : ∀ i j, i < gs.length → j < gs.length → i ≠ j → ∀ k, (ws.getD i undef).ownBlock = some k → (ws.getD j undef).ownBlock ≠ some k
theorem WantAt.frF {w w' : World} {C : Nat} {v : Value} {ws : List Value} {gs : List (List (List Int))} (h : WantAt w C v ws gs) (hf : Fr (fun _ => False) w w') : WantAt w' C v ws gs :=
  ⟨h.len, ownsRow_fr h.own hf (fun _ _ h => h), fun i hi => by
    obtain ⟨vals, h1, h2⟩ := h.each i hi
    exact ⟨vals, ownsRow_fr h1 hf (fun _ _ h => h), fun j hj => (h2 j hj).fr hf (fun _ _ h => h)⟩, h.apart⟩
theorem WantAt.new {w w6 : World} {C : Nat} {v v6 : Value} {ws : List Value} {gs : List (List (List Int))} (h : WantAt w C v ws gs) (o : Obj)
    (hown : w6.ownsRow C 27 1 v6 (gs.length + 1) (ws ++ [.slice none 0 0])) (hg : (w.alloc o).grownBy w6 v.ownBlock) : WantAt w6 C v6 (ws ++ [.slice none 0 0]) (gs ++ [[]]) := by
  have hf : Fr (fun j => v.ownBlock = some j) w w6 := ((Fr.refl _ w).alloc o).trans (Fr.of_grown hg) (fun _ _ h => h)
  have hl := h.len
  have hp := @getD_app _ ws (Value.slice none 0 0) undef
  have hq := @getD_app _ gs [] []
  refine ⟨by simp [hl], by rw [List.length_append]; exact hown, fun i hi => ?_, fun i j hi hj hij k hk => ?_⟩
  · rw [List.length_append, List.length_singleton] at hi
    by_cases e : i < gs.length
    · rw [hp.1 i (by omega), hq.1 i e]
      obtain ⟨vals, h1, h2⟩ := h.each i e
      exact ⟨vals, ownsRow_fr h1 hf (fun k hk hn => row_row_ne h.own h1 (by decide) hn hk), fun j hj => (h2 j hj).fr hf (fun k hk hn => row_row_ne h.own (h2 j hj) (by decide) hn hk)⟩
    · have e2 : i = gs.length := by omega
      subst e2
      rw [hq.2, ← hl, hp.2]
      exact ⟨[], World.ownsRow_nil _ _ _ _, fun j hj => absurd hj (Nat.not_lt_zero _)⟩
  · rw [List.length_append, List.length_singleton] at hi hj
    by_cases e : i < gs.length
    · by_cases e2 : j < gs.length
      · rw [hp.1 j (by omega)]
        rw [hp.1 i (by omega)] at hk
        exact h.apart i j e e2 hij k hk
      · have e3 : j = ws.length := by omega
        subst e3
        rw [hp.2]
        intro hk2
        cases hk2
    · have e3 : i = ws.length := by omega
      subst e3
      rw [hp.2] at hk
      cases hk
theorem WantAt.put {w w6 : World} {C og n cap k : Nat} {v6 nv : Value} {vals ws : List Value} {gs : List (List (List Int))} {xs : List Int} (h : WantAt w C (.slice (some ⟨og, 0, none⟩) n cap) ws gs) (hk : k < gs.length)
    (hvals : w.ownsRow C 48 1 (ws.getD k undef) (gs.getD k []).length vals) (hints : ∀ j, j < (gs.getD k []).length → IntRow w 0 (vals.getD j undef) ((gs.getD k []).getD j [])) (hn : IntRow w 0 nv xs) (o : Obj)
    (hown : w6.ownsRow C 48 1 v6 ((gs.getD k []).length + 1) (vals ++ [nv])) (hg : (w.alloc o).grownBy w6 (ws.getD k undef).ownBlock)
    (hat : v6.ownBlock = (ws.getD k undef).ownBlock ∨ v6.ownBlock = some (w.alloc o).heap.size) :
    WantAt (w6.setCell ⟨og, k, none⟩ v6) C (.slice (some ⟨og, 0, none⟩) n cap) (ws.set k v6) (gs.set k (gs.getD k [] ++ [xs])) := by
  have hl := h.len
  have hf : Fr (fun j => (ws.getD k undef).ownBlock = some j) w w6 := ((Fr.refl _ w).alloc o).trans (Fr.of_grown hg) (fun _ _ h => h)
  have hf2 : Fr (fun j => j = og) w6 (w6.setCell ⟨og, k, none⟩ v6) := (Fr.refl (fun j => j = og) w6).setCell ⟨og, k, none⟩ (fun _ => rfl) v6
  have hp := @getD_set _ ws v6 undef k (by omega)
  have hq := @getD_set _ gs (gs.getD k [] ++ [xs]) [] k hk
  have hnl : n = gs.length := by
    obtain ⟨A, c', e⟩ := row_shape h.own
    injection e
  have hob : ∀ j, og = j → (Value.slice (some ⟨og, 0, none⟩) n cap).ownBlock = some j := fun j e => by
    rw [← e]
    rfl
  have hown6 := ownsRow_fr h.own hf (fun j hj hn => row_row_ne hvals h.own (by decide) hn hj)
  rw [← hnl] at hown6
  have hst := (hown6.stored k v6).1
  have hvl : vals.length = (gs.getD k []).length := by have := hvals.1; simpa using this
  refine ⟨by rw [List.length_set, List.length_set]; exact hl, by rw [List.length_set, ← hnl]; exact hst, fun i hi => ?_, fun i j hi hj hij b hb => ?_⟩
  · rw [List.length_set] at hi
    by_cases e : i = k
    · subst e
      rw [hp.2, hq.2]
      refine ⟨vals ++ [nv], by rw [List.length_append]; exact ownsRow_fr hown hf2 (fun j hj hn => row_row_ne hown6 hown (by decide) (hob j hn.symm) hj), fun j hj => ?_⟩
      rw [List.length_append, List.length_singleton] at hj
      have hz := @getD_app _ vals nv undef
      have hz2 := @getD_app _ (gs.getD i []) xs []
      have key : ∀ (v : Value) (ys : List Int), IntRow w 0 v ys → IntRow (w6.setCell ⟨og, i, none⟩ v6) 0 v ys := fun v ys hr => by
        have h6 := hr.fr hf (fun k hk hn => row_row_ne hvals hr (by decide) hn hk)
        exact h6.fr hf2 (fun k hk hn => row_row_ne hown6 h6 (by decide) (hob k hn.symm) hk)
      by_cases e : j < (gs.getD i []).length
      · rw [hz.1 j (by omega), hz2.1 j e]
        exact key _ _ (hints j e)
      · have e2 : j = (gs.getD i []).length := by omega
        rw [e2, hz2.2, ← hvl, hz.2]
        exact key _ _ hn
    · rw [hp.1 i e, hq.1 i e]
      obtain ⟨vals', h1, h2⟩ := h.each i hi
      have h16 := ownsRow_fr h1 hf (fun j hj hn => h.apart i k hi hk e j hj hn)
      refine ⟨vals', ownsRow_fr h16 hf2 (fun j hj hn => row_row_ne hown6 h16 (by decide) (hob j hn.symm) hj), fun j hj => ?_⟩
      have h6 := (h2 j hj).fr hf (fun k hk hn => row_row_ne hvals (h2 j hj) (by decide) hn hk)
      exact h6.fr hf2 (fun k hk hn => row_row_ne hown6 h6 (by decide) (hob k hn.symm) hk)
  · rw [List.length_set] at hi hj
    have fresh : ∀ i, i < gs.length → ∀ b, (ws.getD i undef).ownBlock = some b → b < w.heap.size := fun i hi b hb => by
      obtain ⟨vals, hr, _⟩ := h.each i hi
      exact (hr.lt b hb).2
    have hz : w.heap.size ≤ (w.alloc o).heap.size := by simp
    by_cases e : i = k
    · subst e
      rw [hp.2] at hb
      rw [hp.1 j (Ne.symm hij)]
      intro hb2
      rcases hat with e1 | e1
      · exact h.apart i j hi hj hij b (by rw [← e1]; exact hb) hb2
      · have h1 := fresh j hj b hb2
        rw [e1] at hb
        injection hb with hb
        omega
    · rw [hp.1 i e] at hb
      by_cases e2 : j = k
      · subst e2
        rw [hp.2]
        intro hb2
        rcases hat with e1 | e1
        · exact h.apart i j hi hj hij b hb (by rw [← e1]; exact hb2)
        · have h1 := fresh i hi b hb
          rw [e1] at hb2
          injection hb2 with hb2
          omega
      · rw [hp.1 j e2]
        exact h.apart i j hi hj hij b hb

end Go.Proofs.YtflhmieeidnpgaaGreatDoor
